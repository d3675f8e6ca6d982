/- Disks: contracts of the reference. -/
import Derived.Test.YthjekadmkconnaaDkC16
set_option linter.unusedVariables false
namespace Go.Proofs
open Go Go.Eng
theorem str_size (xs : List UInt8) : (str xs).size = xs.length := by simp [str, ByteArray.size]
theorem str_extract (xs : List UInt8) (n : Nat) : (str xs).extract 0 n = str (xs.take n) := by
  unfold str
  apply ByteArray.ext
  simp [ByteArray.data_extract]
theorem str_app (xs ys : List UInt8) : str xs ++ str ys = str (xs ++ ys) := by
  unfold str
  apply ByteArray.ext
  simp
def rcs (D : Dsk) : List Value := [.string (str D.bs), .int .i64 (D.safe : Int), .bool D.dead, .int .i64 D.fuse]
def RefD (w : World) (r : Nat) (D : Dsk) : Prop := Blk w r 57 (rcs D) ∧ DOk D ∧ (D.dead = true → D.fuse = -1)
theorem RefD.fr {F : Nat → Prop} {w w' : World} {r : Nat} {D : Dsk} (h : RefD w r D) (hf : Fr F w w') (hr : ¬ F r) : RefD w' r D := ⟨h.1.fr hf hr, h.2⟩
theorem pw_ok {D : Dsk} (h : DOk D) (hi : D.dead = true → D.fuse = -1) : DOk (pwD D) ∧ ((pwD D).dead = true → (pwD D).fuse = -1) ∧ (pwE D = 0 ↔ (pwD D).dead = false) := by
  obtain ⟨h1, h2, h3, h4⟩ := h
  unfold pwD pwE
  by_cases hd : D.dead = true
  · rw [if_pos hd, if_pos hd]
    exact ⟨⟨h1, h2, h3, h4⟩, hi, by simp [hd]⟩
  · rw [if_neg hd, if_neg hd]
    have hd' : D.dead = false := by cases e : D.dead; rfl; exact absurd e hd
    by_cases hf : D.fuse = 0
    · rw [if_pos hf, if_pos hf]
      exact ⟨⟨h1, h2, by simp, by simp⟩, fun _ => rfl, by simp⟩
    · rw [if_neg hf, if_neg hf]
      split
      · exact ⟨⟨h1, h2, by simp only; omega, by simp only; omega⟩, fun h => absurd h (by simp [hd']), by simp [hd']⟩
      · exact ⟨⟨h1, h2, h3, h4⟩, hi, by simp [hd']⟩
section
variable {w : World} {r : Nat} {D : Dsk}
theorem ref_new (w : World) : Ret Try.prog 22 [] w fun v w' => v = .pointer (some ⟨w.heap.size, 0, none⟩) ∧ RefD w' w.heap.size ⟨[], 0, false, -1⟩ ∧ Fr none1 w w' := by
  apply S22_calls
  exact ⟨rfl, ⟨Blk.new w 57 _, by unfold DOk; simp, fun h => by cases h⟩, Fr.alloc _ _⟩
theorem ref_on (h : RefD w r D) : Ret Try.prog 35 [.pointer (some ⟨r, 0, none⟩)] w fun v w' => v = .bool (decide (pwE D = 0)) ∧ RefD w' r (pwD D) ∧ Fr (toD r) w w' := by
  obtain ⟨h1, h2, hi⟩ := h
  obtain ⟨o1, o2, o3⟩ := pw_ok h2 hi
  apply S35_calls
  refine ⟨_, rfl, D.fuse, by rw [add_g]; exact (h1.cell 3).trans rfl, ?_⟩
  -- from a world that holds a state whose fuse is not 0
  have rest : ∀ (w1 : World) (E : Dsk), Blk w1 r 57 (rcs E) → Fr (toD r) w w1 → E.fuse ≠ 0 → -1 ≤ E.fuse → E.fuse ≤ 9223372036854775807 → (if E.dead = false ∧ 0 < E.fuse then { E with fuse := E.fuse - 1 } else E) = pwD D → E.dead = (pwD D).dead →
      S35_k0 (some ⟨r, 0, none⟩) w1 (fun v w' => v = .bool (decide (pwE D = 0)) ∧ RefD w' r (pwD D) ∧ Fr (toD r) w w') := by
    intro w1 E b f e0 e1 e2 eE ed
    have fin : (Value.bool (!(pwD D).dead)) = .bool (decide (pwE D = 0)) := by
      congr 1
      cases e : (pwD D).dead with
      | false => rw [decide_eq_true (o3.2 e)]; rfl
      | true => rw [decide_eq_false (fun h => by rw [o3.1 h] at e; cases e)]; rfl
    refine ⟨_, rfl, E.dead, by rw [add_g]; exact (b.cell 2).trans rfl, ?_⟩
    refine cB (fun hd => ?_) (fun hd => ?_)
    · have hd' : E.dead = false := by simpa using hd
      refine ⟨_, rfl, E.fuse, by rw [add_g]; exact (b.cell 3).trans rfl, ?_⟩
      refine cD (fun hp => ?_) (fun hp => ?_)
      · rw [if_pos ⟨hd', hp⟩] at eE
        have b2 := b.set 3 (.int .i64 (E.fuse - 1))
        refine ⟨_, rfl, E.fuse, by rw [add_g]; exact (b.cell 3).trans rfl, _, rfl, by rw [add_g]; exact b.has 3 (by simp [rcs]), by rw [add_g]; exact b.free 3, ?_⟩
        rw [IntWalk.i64_in (E.fuse - 1) (by omega), add_g]
        have b3 : Blk (w1.setCell ⟨r, 3, none⟩ (.int .i64 (E.fuse - 1))) r 57 (rcs (pwD D)) := by rw [← eE]; exact b2
        exact ⟨_, rfl, (pwD D).dead, by rw [add_g]; exact (b3.cell 2).trans rfl, fin, ⟨b3, o1, o2⟩, f.trans' (setD _ _ _ _)⟩
      · rw [if_neg (fun h => hp h.2)] at eE
        subst eE
        exact ⟨_, rfl, _, by rw [add_g]; exact (b.cell 2).trans rfl, fin, ⟨b, o1, o2⟩, f⟩
    · have hd' : E.dead = true := by simpa using hd
      rw [if_neg (fun h => by rw [hd'] at h; cases h.1)] at eE
      subst eE
      exact cF rfl ⟨_, rfl, _, by rw [add_g]; exact (b.cell 2).trans rfl, fin, ⟨b, o1, o2⟩, f⟩
  refine cD (fun hf => ?_) (fun hf => ?_)
  · have hd : D.dead = false := by
      cases e : D.dead with
      | false => rfl
      | true => have := hi e; omega
    have ep : pwD D = { D with dead := true, fuse := -1 } := by unfold pwD; rw [if_neg (by rw [hd]; decide), if_pos hf]
    have b1 := h1.set 2 (.bool true)
    have b2 := b1.set 3 (.int .i64 (-1))
    refine ⟨_, rfl, by rw [add_g]; exact h1.has 2 (by simp [rcs]), by rw [add_g]; exact h1.free 2, _, rfl, by rw [add_g, add_g]; exact b1.has 3 (by simp [rcs]), by rw [add_g, add_g]; exact b1.free 3, ?_⟩
    rw [add_g, add_g]
    refine rest _ { D with dead := true, fuse := -1 } b2 ((setD _ _ _ _).trans' (setD _ _ _ _)) (by simp) (by simp) (by simp) ?_ ?_
    · rw [ep]; simp
    · rw [ep]
  · obtain ⟨a1, a2, a3, a4⟩ := h2
    refine rest w D h1 (Fr.refl _ _) hf a3 a4 ?_ ?_
    · unfold pwD
      by_cases hd : D.dead = true
      · rw [if_neg (fun h => by rw [hd] at h; cases h.1), if_pos hd]
      · have hd' : D.dead = false := by cases e : D.dead; rfl; exact absurd e hd
        rw [if_neg hd, if_neg hf]
        simp only [hd', true_and]
    · unfold pwD
      by_cases hd : D.dead = true
      · rw [if_pos hd]
      · rw [if_neg hd, if_neg hf]; split <;> rfl
theorem pw5 {D : Dsk} (h : pwE D ≠ 0) : pwE D = 5 := by
  unfold pwE at *
  split
  · rfl
  · rename_i h1; rw [if_neg h1] at h
    split
    · rfl
    · rename_i h2; rw [if_neg h2] at h; exact absurd rfl h
theorem ref_append (h : RefD w r D) (xs : List UInt8) (hx : xs.length ≤ 1000000000) : Ret Try.prog 23 [.pointer (some ⟨r, 0, none⟩), .string (str xs)] w fun v w' => v = .int .i64 (apE D xs) ∧ RefD w' r (apD D xs) ∧ Fr (toD r) w w' := by
  have hD := h.2.1
  apply S23_calls
  refine (ref_on h).use ?_
  rintro v w1 ⟨rfl, h1, f1⟩
  obtain ⟨e1, e2⟩ := pw_bs D
  refine ⟨_, rfl, ?_⟩
  unfold apD apE
  refine cN (fun he => ?_) (fun he => ?_)
  · rw [if_pos he, if_neg he]
    exact ⟨by rw [pw5 he], h1, f1⟩
  · rw [if_neg (by omega : ¬ pwE D ≠ 0)]
    obtain ⟨b, o1, o2⟩ := h1
    have bc : w1.cell? ⟨r, 0, none⟩ = some (.string (str D.bs)) := by rw [b.cell]; unfold rcs; rw [e1]; rfl
    obtain ⟨h2, h3, h4, h5⟩ := hD
    refine ⟨_, rfl, _, bc, ?_⟩
    rw [str_size, str_size, IntWalk.i64_in (1048576 - (D.bs.length : Int)) (by omega)]
    refine cD (fun hl => ?_) (fun hl => ?_)
    · rw [if_pos (by omega), if_neg (by decide)]
      exact ⟨rfl, ⟨b, o1, o2⟩, f1⟩
    · rw [if_neg (by omega), if_pos rfl]
      refine ⟨_, rfl, _, bc, by rw [str_size, str_size]; omega, _, rfl, b.has 0 (by simp [rcs]), b.free 0, rfl, ⟨?_, ?_, o2⟩, f1.trans' (setD _ _ _ _)⟩
      · rw [str_app]; exact b.set 0 _
      · obtain ⟨c1, c2, c3, c4⟩ := o1
        exact ⟨by simp only [List.length_append]; rw [e1] at c1; omega, by simp only [List.length_append]; omega, c3, c4⟩
theorem ref_sync (h : RefD w r D) : Ret Try.prog 26 [.pointer (some ⟨r, 0, none⟩)] w fun v w' => v = .int .i64 (syE D) ∧ RefD w' r (syD D) ∧ Fr (toD r) w w' := by
  apply S26_calls
  refine (ref_on h).use ?_
  rintro v w1 ⟨rfl, h1, f1⟩
  obtain ⟨e1, e2⟩ := pw_bs D
  refine ⟨_, rfl, ?_⟩
  unfold syD syE
  refine cN (fun he => ?_) (fun he => ?_)
  · rw [if_neg he]
    exact ⟨by rw [pw5 he], h1, f1⟩
  · rw [if_pos he]
    obtain ⟨b, o1, o2⟩ := h1
    refine ⟨_, rfl, _, (b.cell 0).trans rfl, _, rfl, by rw [add_g]; exact b.has 1 (by simp [rcs]), by rw [add_g]; exact b.free 1, by rw [he], ⟨?_, ?_, o2⟩, ?_⟩
    · rw [add_g, str_size, e1]
      exact b.set 1 _
    · obtain ⟨c1, c2, c3, c4⟩ := o1
      exact ⟨by simp only; rw [e1]; exact Nat.le_refl _, c2, c3, c4⟩
    · rw [add_g]; exact f1.trans' (setD _ _ _ _)
theorem ref_cutoff (h : RefD w r D) (n : Int) : Ret Try.prog 37 [.pointer (some ⟨r, 0, none⟩), .int .i64 n] w fun v w' => v = .int .i64 (cuE D n) ∧ RefD w' r (cuD D n) ∧ Fr (toD r) w w' := by
  apply S37_calls
  refine (ref_on h).use ?_
  rintro v w1 ⟨rfl, h1, f1⟩
  obtain ⟨e1, e2⟩ := pw_bs D
  refine ⟨_, rfl, ?_⟩
  unfold cuD cuE
  refine cN (fun he => ?_) (fun he => ?_)
  · rw [if_pos he, if_neg he]
    exact ⟨by rw [pw5 he], h1, f1⟩
  · rw [if_neg (by omega : ¬ pwE D ≠ 0)]
    have h1' := h1
    obtain ⟨b, o1, o2⟩ := h1
    have bc : w1.cell? ⟨r, 0, none⟩ = some (.string (str D.bs)) := by rw [b.cell]; unfold rcs; rw [e1]; rfl
    refine cD (fun h0 => ?_) (fun h0 => ⟨_, rfl, _, bc, ?_⟩)
    · rw [if_neg (by omega), if_neg (by decide)]
      exact cT rfl ⟨rfl, h1', f1⟩
    · rw [str_size]
      refine cD (fun hl => ?_) (fun hl => ?_)
      · rw [if_neg (by omega), if_neg (by decide)]
        exact ⟨rfl, h1', f1⟩
      · rw [if_pos (by omega), if_pos rfl]
        obtain ⟨m, rfl⟩ := Int.eq_ofNat_of_zero_le (by omega : 0 ≤ n)
        have hm : m ≤ D.bs.length := by omega
        unfold S37_k2
        rw [Int.toNat_natCast]
        have j1 := b.set 0 (.string (str (D.bs.take m)))
        refine ⟨_, rfl, _, bc, by omega, by rw [str_size]; omega, _, rfl, b.has 0 (by simp [rcs]), b.free 0, _, rfl, ?_⟩
        rw [str_extract, add_g]
        refine ⟨j1.has 1 (by simp [rcs]), j1.free 1, rfl, ⟨j1.set 1 _, ?_, o2⟩, f1.trans' ((setD _ _ _ _).trans' (setD _ _ _ _))⟩
        obtain ⟨c1, c2, c3, c4⟩ := o1
        rw [e1] at c2
        exact ⟨by simp only [List.length_take]; omega, by simp only [List.length_take]; omega, c3, c4⟩
theorem ref_cut (h : RefD w r D) (n : Int) (hn : n ≤ 9223372036854775807) : Ret Try.prog 27 [.pointer (some ⟨r, 0, none⟩), .int .i64 n] w fun v w' => v = .tuple ⟨[]⟩ ∧ RefD w' r (ctD D n) ∧ Fr (toD r) w w' := by
  have h0 := h
  obtain ⟨b, o1, o2⟩ := h
  apply S27_calls
  refine ⟨_, rfl, D.dead, by rw [add_g]; exact (b.cell 2).trans rfl, ?_⟩
  unfold ctD
  refine cB (fun hd => ?_) (fun hd => ?_)
  · have hd' : ¬ D.dead = true := by intro e; rw [e] at hd; cases hd
    rw [if_neg hd']
    obtain ⟨c1, c2, c3, c4⟩ := o1
    refine ⟨_, rfl, by rw [add_g]; exact b.has 3 (by simp [rcs]), by rw [add_g]; exact b.free 3, rfl, ⟨by rw [add_g]; exact b.set 3 _, ⟨c1, c2, by simp only; split <;> omega, by simp only; split <;> omega⟩, fun h => absurd h hd'⟩, by rw [add_g]; exact setD _ _ _ _⟩
  · have hd' : D.dead = true := by cases e : D.dead; rw [e] at hd; cases hd; rfl
    rw [if_pos hd']
    exact ⟨rfl, h0, Fr.refl _ _⟩
theorem ref_crash (h : RefD w r D) (keep : Int) : Ret Try.prog 28 [.pointer (some ⟨r, 0, none⟩), .int .i64 keep] w fun v w' => v = .tuple ⟨[]⟩ ∧ RefD w' r (crD D keep) ∧ Fr (toD r) w w' := by
  obtain ⟨b, ⟨h3, h4, h5, h6⟩, o2⟩ := h
  apply S28_calls
  have dr : Fr none1 w w.drew := Fr.drew w
  have j1 := b.fr dr (fun h => h)
  have dr2 : Fr none1 w.drew w.drew.drew := Fr.drew _
  have i1 := j1.fr dr2 (fun h => h)
  refine ⟨_, rfl, _, rfl, _, (j1.cell 0).trans rfl, (D.safe : Int), by rw [add_g]; exact (j1.cell 1).trans rfl, ?_⟩
  rw [str_size, IntWalk.i64_in ((D.bs.length : Int) - (D.safe : Int)) (by omega)]
  have hk : ∀ a : Int, a = (if ((D.bs.length : Int) - (D.safe : Int)) < keep then ((D.bs.length : Int) - (D.safe : Int)) else keep) → (if a > 0 then a else 0) = (kept D keep : Int) := by
    intro a ha
    subst ha
    unfold kept
    split <;> split <;> omega
  rw [hk _ rfl]
  have hkl : D.safe + kept D keep ≤ D.bs.length := by unfold kept; omega
  unfold S28_k0
  refine ⟨_, rfl, _, rfl, (D.safe : Int), by rw [add_g]; exact (i1.cell 1).trans rfl, _, (i1.cell 0).trans rfl, ?_⟩
  rw [IntWalk.i64_in ((D.safe : Int) + (kept D keep : Int)) (by omega), show (D.safe : Int) + (kept D keep : Int) = ((D.safe + kept D keep : Nat) : Int) by omega, Int.toNat_natCast]
  generalize hn : D.safe + kept D keep = n at hkl
  refine ⟨by omega, by rw [str_size]; omega, _, rfl, i1.has 0 (by simp [rcs]), i1.free 0, ?_⟩
  rw [str_extract]
  generalize w.drew.drew = w2 at i1 dr2
  have l0 := i1.set 0 (.string (str (D.bs.take n)))
  have l1 := l0.set 1 (.int .i64 (n : Int))
  have l2 := l1.set 2 (.bool false)
  have l3 := l2.set 3 (.int .i64 (-1))
  have e1 : (D.bs.take n).length = n := by simp; omega
  refine ⟨_, rfl, _, (l0.cell 0).trans rfl, _, rfl, ?_⟩
  rw [add_g, str_size, e1]
  refine ⟨l0.has 1 (by simp [rcs]), l0.free 1, _, rfl, ?_⟩
  rw [add_g]
  refine ⟨l1.has 2 (by simp [rcs]), l1.free 2, _, rfl, ?_⟩
  rw [add_g]
  refine ⟨l2.has 3 (by simp [rcs]), l2.free 3, rfl, ⟨?_, ?_, fun h => by cases h⟩, (dr.mono fun _ _ h => h.elim).trans' ((dr2.mono fun _ _ h => h.elim).trans' ((setD _ _ _ _).trans' ((setD _ _ _ _).trans' ((setD _ _ _ _).trans' (setD _ _ _ _)))))⟩
  · unfold crD
    simp only [hn]
    exact l3
  · unfold crD DOk
    simp only [hn, e1]
    omega
theorem ref_read (h : RefD w r D) : Ret Try.prog 29 [.pointer (some ⟨r, 0, none⟩)] w fun v w' => v = .tuple ⟨[.string (str (rdB D)), .int .i64 (rdE D)]⟩ ∧ w' = w := by
  obtain ⟨b, _⟩ := h
  apply S29_calls
  refine ⟨_, rfl, D.dead, by rw [add_g]; exact (b.cell 2).trans rfl, ?_⟩
  unfold rdB rdE
  refine cB (fun hd => ?_) (fun hd => ?_)
  · rw [if_pos hd, if_pos hd]; exact ⟨rfl, rfl⟩
  · have hd' : ¬ D.dead = true := by rw [hd]; decide
    rw [if_neg hd', if_neg hd']
    exact ⟨_, rfl, _, (b.cell 0).trans rfl, rfl, rfl⟩
end
end Go.Proofs
