import Derived.Test.YtgcoecbbgipgpaaHeapG
set_option linter.unusedVariables false
namespace Go.Proofs
open Go Go.Eng
/-! ### What sorting does -/
theorem pushAll_srt : ∀ (xs : List It) (n : Nat) (S : List En), Srt S → (∀ e ∈ S, e.2.2 < (n : Int)) → Srt (pushAll xs n S)
  | [], _, _, h, _ => h
  | x :: xs, n, S, h, hs => pushAll_srt xs (n + 1) _ (insE_srt _ S h hs) fun e he => by
    rcases List.mem_cons.1 ((insE_perm _ S).mem_iff.1 he) with rfl | he
    · show (n : Int) < ((n + 1 : Nat) : Int); omega
    · have := hs e he; omega
/-- The entries in the order in which they were pushed. -/
def ents : List It → Nat → List En
  | [], _ => []
  | x :: xs, n => (x.1, x.2, (n : Int)) :: ents xs (n + 1)
theorem pushAll_perm : ∀ (xs : List It) (n : Nat) (S : List En), (pushAll xs n S).Perm (ents xs n ++ S)
  | [], _, _ => List.Perm.refl _
  | x :: xs, n, S => by
    rw [pushAll, ents]
    refine (pushAll_perm xs (n + 1) _).trans ?_
    refine (List.Perm.append_left _ (insE_perm _ S)).trans ?_
    exact List.perm_middle
theorem ents_itm : ∀ (xs : List It) (n : Nat), (ents xs n).map itm = xs
  | [], _ => rfl
  | x :: xs, n => by rw [ents, List.map_cons, ents_itm]; rfl
theorem ents_get : ∀ (xs : List It) (n i : Nat) (x : It), xs[i]? = some x → (ents xs n)[i]? = some (x.1, x.2, ((n + i : Nat) : Int))
  | y :: xs, n, 0, x, h => by simp at h; subst h; rfl
  | y :: xs, n, i + 1, x, h => by
    rw [ents, List.getElem?_cons_succ, ents_get xs (n + 1) i x (by simpa using h), show n + 1 + i = n + (i + 1) by omega]
theorem ents_mem : ∀ (xs : List It) (n : Nat) (e : En), e ∈ ents xs n → ∃ i : Nat, xs[i]? = some (itm e) ∧ e.2.2 = ((n + i : Nat) : Int)
  | x :: xs, n, e, h => by
    rcases List.mem_cons.1 h with rfl | h
    · exact ⟨0, rfl, by simp⟩
    · obtain ⟨i, h1, h2⟩ := ents_mem xs (n + 1) e h
      exact ⟨i + 1, by simpa using h1, by rw [h2]; omega⟩
def srt (xs : List It) : List En := pushAll xs 0 []
theorem srt_srt (xs : List It) : Srt (srt xs) := pushAll_srt xs 0 [] List.Pairwise.nil (by simp)
theorem srt_perm (xs : List It) : (srt xs).Perm (ents xs 0) := by
  have := pushAll_perm xs 0 []
  rwa [List.append_nil] at this
theorem sorted_perm' (xs : List It) : (sorted xs).Perm xs := by
  have := (srt_perm xs).map itm
  rwa [ents_itm] at this
theorem srt_len (xs : List It) : (srt xs).length = xs.length := by unfold srt; rw [pushAll_len]; simp
theorem sorted_keys (xs : List It) : (sorted xs).Pairwise (fun a b => a.1 ≤ b.1) := by
  unfold sorted
  rw [List.pairwise_map]
  exact (srt_srt xs).imp fun h => by unfold lt at h; unfold itm; simp only; omega
/-- Keys in order are the same for the same keys. -/
theorem keys_same {xs ys : List It} (h : xs.Perm ys) : (sorted xs).map (·.1) = (sorted ys).map (·.1) := by
  refine List.Perm.eq_of_pairwise (le := fun a b : Int => decide (a ≤ b)) (fun a b _ _ h1 h2 => by simp at h1 h2; omega) ?_ ?_ (((sorted_perm' xs).trans (h.trans (sorted_perm' ys).symm)).map _)
  · rw [List.pairwise_map]; exact (sorted_keys xs).imp fun h => by simpa using h
  · rw [List.pairwise_map]; exact (sorted_keys ys).imp fun h => by simpa using h
section
variable {W : World}
theorem keys_cmp {w : World} {ok1 ok2 : Nat → Prop} {Ax A1 A2 : Option Addr} {cx c1 c2 : Nat} {xs ys : List It} (hp : xs.Perm ys) (h1 : Rd w ok1 A1 (rws it2 (sorted xs))) (h2 : Rd w ok2 A2 (rws it2 (sorted ys))) (f : Fr none1 W w) (hl : xs.length ≤ 300) :
    S9_k1 true Ax xs.length cx A1 xs.length c1 A2 ys.length c2 w (Done W) := by
  have hlen := hp.length_eq
  refine cF (by simp) (cF (by simp [hlen]) ?_)
  have hk := keys_same hp
  refine ⟨fun s w' => ∃ n : Nat, s.1 = (n : Int) ∧ n ≤ xs.length ∧ Fr none1 w w', fun s _ => xs.length - s.1.toNat, ⟨0, rfl, Nat.zero_le _, Fr.refl _ _⟩, ?_⟩
  rintro J ⟨i, ⟨⟩⟩ w1 ⟨n, hi, hn, f1⟩
  dsimp only at hi ⊢
  subst hi
  refine cD (fun hlt => ?_) (fun hlt => ?_)
  · have f2 := f1.trans' (Fr.drew w1)
    have l1 : n < (sorted xs).length := by rw [sorted_len]; omega
    have l2 : n < (sorted ys).length := by rw [sorted_len]; omega
    have ex : (sorted xs)[n]? = some (sorted xs)[n] := List.getElem?_eq_getElem l1
    have ey : (sorted ys)[n]? = some (sorted ys)[n] := List.getElem?_eq_getElem l2
    have e : (sorted xs)[n].1 = (sorted ys)[n].1 := by
      have h3 := congrArg (fun l : List Int => l[n]?) hk
      simp only [List.getElem?_map, ex, ey, Option.map_some, Option.some.injEq] at h3
      exact h3
    obtain ⟨a1, rfl, _, q1⟩ := (h1.fr f2 fun _ _ _ h => h).elem it2_len ex (by decide)
    obtain ⟨a2, rfl, _, q2⟩ := (h2.fr f2 fun _ _ _ h => h).elem it2_len ey (by decide)
    have q10 := q1 0 _ (by decide) rfl
    have q20 := q2 0 _ (by decide) rfl
    rw [add_zero'] at q10 q20
    refine ⟨_, rfl, by omega, by omega, _, rfl, by omega, by omega, _, by rw [Int.toNat_natCast]; exact q10, _, by rw [Int.toNat_natCast]; exact q20, cF (by simp [e]) ?_⟩
    rw [IntWalk.i64_in ((n : Int) + 1) (by omega)]
    exact ⟨⟨n + 1, rfl, by omega, f2⟩, by dsimp only; omega⟩
  · exact ⟨rfl, f.trans' f1⟩
/-- The list, turned, sorted; compared. -/
theorem keys_turn {w : World} {A A1 : Option Addr} {c c1 k : Nat} {xs : List It} {ok1 : Nat → Prop} {g : Nat} (h : Rd w (fun k => k < W.heap.size) A (rws it2 xs)) (hlit : Own w 32 2 (fun q => q = g) (some ⟨g, 0, none⟩) 0 0 []) (hg : W.heap.size ≤ g) (h1 : Own w 32 2 ok1 A1 xs.length c1 (rws it2 (sorted xs))) (hne : ∀ a, A1 = some a → a.block ≠ g) (f : Fr none1 W w) (hk : k ≤ xs.length) (hc : xs.length ≤ c) (hl : xs.length ≤ 300) :
    ∃ (t31_a : Option Addr) (t31_l : Nat) (t31_c : Nat) (w__1 : World),
      (Builtin.append_ #[27, 27] 27 ⟨[(.slice (some ⟨g, 0, none⟩) 0 0), (.slice (slAddr A c k 2) (xs.length - k) (c - k))]⟩).run Try.prog w = .ok (.slice t31_a t31_l t31_c) w__1 ∧
      ∃ (t35_a : Option Addr) (t35_l : Nat) (t35_c : Nat) (w__2 : World),
      (Builtin.append_ #[27, 27] 27 ⟨[(.slice t31_a t31_l t31_c), (.slice A k c)]⟩).run Try.prog w__1 = .ok (.slice t35_a t35_l t35_c) w__2 ∧
      Calls Try.prog 21 ⟨[(.slice t35_a t35_l t35_c)]⟩ w__2 fun e w__3 =>
        ∃ (t36_a : Option Addr) (t36_l : Nat) (t36_c : Nat),
        e = .returned (.slice t36_a t36_l t36_c) ∧
        S9_k1 true A xs.length c A1 xs.length c1 t36_a t36_l t36_c w__3 (Done W) := by
  have len := rws_length it2_len xs
  have hB : W.heap.size ≤ w.heap.size := f.size
  have hgl := (hlit.has _ rfl).2
  have lit : Own w 32 2 (bw W.heap.size w) (some ⟨g, 0, none⟩) 0 0 [] := hlit.ok fun a ha => by cases ha; exact ⟨hg, hgl⟩
  have rdD := h.drop (m := c) (l := k) (sz := 2) (by rw [len]; omega)
  obtain ⟨A4, c4, w4, r4, o4, f4, x4⟩ := run_append (ty := 27) (m := xs.length - k) (c2 := c - k) E27 hlit (by rw [List.length_drop, len]; omega) rdD (fun u hu => rws_cells it2_one xs u (List.mem_of_mem_drop hu)) (by omega) (by simp only [maxLen]; omega)
  have big : ∀ q, q < W.heap.size → ¬ ownAt (some ⟨g, 0, none⟩) q := fun q hq ⟨a, ha, e⟩ => by cases ha; simp only at e; omega
  have h4 := h.fr f4 (fun q _ hq => big q hq)
  have s4 := h1.fr1 f4 (fun a ha ⟨a', ha', e⟩ => by cases ha'; exact hne a ha e.symm)
  refine ⟨A4, _, c4, w4, r4, ?_⟩
  have rdT := h4.take (k * 2)
  obtain ⟨A5, c5, w5, r5, o5, f5, x5⟩ := run_append (ty := 27) (m := k) (c2 := c) E27 o4 (by rw [List.length_take, len]; omega) rdT (fun u hu => rws_cells it2_one xs u (List.mem_of_mem_take hu)) (by omega) (by simp only [maxLen]; omega)
  have n5 : ∀ q, ownAt A4 q → q = g ∨ w.heap.size ≤ q := fun q ⟨a, ha, e⟩ => e ▸ (o4.has a ha).1
  have s5 := s4.fr1 f5 (fun a ha ho => by
    have hlt := (h1.has a ha).2
    rcases n5 _ ho with e | e
    · exact hne a ha e
    · omega)
  refine ⟨A5, _, c5, w5, r5, ?_⟩
  have e0 : [] ++ (rws it2 xs).drop (k * 2) ++ (rws it2 xs).take (k * 2) = rws it2 (xs.drop k ++ xs.take k) := by
    rw [List.nil_append, rws_drop it2_len, rws_take it2_len, rws_append]
  rw [e0] at o5
  have hzl : (xs.drop k ++ xs.take k).length = 0 + (xs.length - k) + k := by simp; omega
  have hz := sort_ok (c := c5) o5.rd (by rw [hzl]; omega)
  rw [hzl] at hz
  refine hz.use ?_
  rintro v w6 ⟨A6, c6, rfl, o6, f6⟩
  refine ⟨_, _, _, rfl, ?_⟩
  have hperm : xs.Perm (xs.drop k ++ xs.take k) := by
    have := List.perm_append_comm (l₁ := xs.take k) (l₂ := xs.drop k)
    rwa [List.take_append_drop] at this
  have f45 : Fr none1 W w5 := by
    refine (f.trans (f4.mono (G := fun q => W.heap.size ≤ q) fun q _ ⟨a, ha, e⟩ => by cases ha; simp only at e; omega) fun q hq h => by omega).trans (f5.mono (G := fun q => W.heap.size ≤ q) fun q _ h => ?_) fun q hq h => by omega
    rcases n5 q h with e | e <;> omega
  have := keys_cmp (Ax := A) (cx := c) (c1 := c1) (c2 := c6) (W := W) hperm (s5.rd.fr f6 fun _ _ _ h => h) o6.rd (f45.trans' f6) hl
  rw [hzl] at this
  exact this
theorem heapKeys_ok {A : Option Addr} {l c : Nat} {xs : List It} (h : Rd W (fun k => k < W.heap.size) A (rws it2 xs)) (hl : xs.length = l) (hc : l ≤ c) (m : Int) (hm : 0 ≤ m ∧ m < 65536) : Ret Try.prog 9 [.slice A l c, .int .u16 m] W (Done W) := by
  apply S9_calls
  obtain ⟨n, h1, h2, h3, h4, h5⟩ := cut_ok (m := 300) (c := c) h hl
  unfold S9
  rw [show ((300 : Nat) : Int) = 300 from rfl] at h1
  rw [h1]
  have e1 : Int.toNat (n : Int) - 0 = n := by simp
  rw [e1, slAddr_zero, Nat.sub_zero]
  refine (shown_ok _).use ?_
  rintro v w1 ⟨rfl, f1⟩
  generalize xs.take n = ys at h4 h5
  subst h4
  refine ⟨_, rfl, by omega, by omega, ?_⟩
  have main : ∀ k : Nat, k ≤ ys.length → S9_k0 true A ys.length c (k : Int) w1 (Done W) := by
    intro k hk
    have d : Fr none1 w1 w1.drew := Fr.drew w1
    have f2 := f1.trans' d
    unfold S9_k0
    rw [Int.toNat_natCast, slAddr_zero, Nat.sub_zero, Nat.sub_zero]
    have r2 := h5.fr f2 (fun _ _ _ h => h)
    refine ⟨by omega, by omega, by omega, by omega, ?_, ?_⟩
    · refine (sort_ok (c := c) r2 (by omega)).use ?_
      rintro v w3 ⟨A3, c3, rfl, o3, f3⟩
      refine ⟨_, _, _, rfl, ?_⟩
      have a4 : Fr none1 w3 (w3.alloc (.cells ⟨[]⟩ 32)) := Fr.alloc _ _
      have lit := Own.lit w3 32 2 0 [] rfl (Nat.zero_le _)
      have f4 := (f2.trans' f3).trans' a4
      exact keys_turn ((r2.fr f3 fun _ _ _ h => h).fr a4 fun _ _ _ h => h) lit (f2.trans' f3).size (o3.fr a4 fun _ _ _ h => h) (fun a ha e => by have := (o3.has a ha).2; omega) f4 hk (by omega) (by omega)
    · have a3 : Fr none1 w1.drew (w1.drew.alloc (.cells ⟨[]⟩ 32)) := Fr.alloc _ _
      have lit := Own.lit w1.drew 32 2 0 [] rfl (Nat.zero_le _)
      have hg := f2.size
      generalize w1.drew.heap.size = g at lit hg ⊢
      generalize w1.drew.alloc (.cells ⟨[]⟩ 32) = w3 at lit a3 ⊢
      have r3 := r2.fr a3 (fun _ _ _ h => h)
      refine (sort_ok (c := c) r3 (by omega)).use ?_
      rintro v w4 ⟨A4, c4, rfl, o4, f4⟩
      refine ⟨_, _, _, rfl, ?_⟩
      have hgl := (lit.has _ rfl).2
      exact keys_turn (r3.fr f4 fun _ _ _ h => h) (lit.fr f4 fun _ _ _ h => h) hg o4 (fun a ha e => by have := (o4.has a ha).1.1; simp only at hgl; omega) ((f2.trans' a3).trans' f4) hk (by omega) (by omega)
  refine cD (fun hpos => ?_) (fun hpos => main 0 (Nat.zero_le _))
  refine ⟨by omega, ?_⟩
  rw [IntWalk.i64_in m (by omega)]
  have q0 : 0 ≤ Int.tmod m (ys.length : Int) := Int.tmod_nonneg _ hm.1
  have q1 : Int.tmod m (ys.length : Int) < (ys.length : Int) := Int.tmod_lt_of_pos _ hpos
  obtain ⟨k, hk⟩ := Int.eq_ofNat_of_zero_le q0
  rw [hk]
  exact main k (by omega)
end
end Go.Proofs
