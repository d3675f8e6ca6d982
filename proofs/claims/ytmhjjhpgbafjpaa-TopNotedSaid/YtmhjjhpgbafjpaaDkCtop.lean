/- Disks: contracts of the program. -/
import Derived.Test.YtmhjjhpgbafjpaaBitVtop
import Derived.Test.YtmhjjhpgbafjpaaHp6
set_option linter.unusedVariables false
namespace Go.Proofs
open Go Go.Eng
theorem mkT_of {P : Program} {t e : TypeId} {z : Value} {bytes : Nat} (h1 : P.underlying t = some (.slice e)) (h2 : ((P.info? e).map fun i => (i.size == 1 && i.bytes == bytes)) = some true) (h3 : (P.info? e).bind (·.zero) = some z) (hz : z.cells = #[z]) : MkT P t e z bytes := by
  cases hi : P.info? e with
  | none => rw [hi] at h2; cases h2
  | some i =>
    rw [hi] at h2 h3
    simp at h2
    exact ⟨h1, i, hi, h3, h2.1, h2.2, hz⟩
theorem Mby : MkT Try.prog 36 5 (.int .u8 0) 1 := mkT_of Uby (by kernel_rfl) (by kernel_rfl) rfl
theorem Iu8 : (Try.prog.info? 5).map (·.size) = some 1 := by kernel_rfl
structure Dsk where
  bs : List UInt8
  safe : Nat
  dead : Bool
  fuse : Int
def dcs (A : Option Addr) (c : Nat) (D : Dsk) : List Value := [.slice A D.bs.length c, .int .i64 (D.safe : Int), .bool D.dead, .int .i64 D.fuse]
def DOk (D : Dsk) : Prop := D.safe ≤ D.bs.length ∧ D.bs.length ≤ 1048576 ∧ -1 ≤ D.fuse ∧ D.fuse ≤ 9223372036854775807
def DiskAt (w : World) (ok : Nat → Prop) (d : Nat) (D : Dsk) : Prop :=
  ok d ∧ ∃ A c, Blk w d 82 (dcs A c D) ∧ Own w 5 1 ok A D.bs.length c (bvs D.bs) ∧ DOk D
theorem DiskAt.fr {F : Nat → Prop} {w w' : World} {ok : Nat → Prop} {d : Nat} {D : Dsk} (h : DiskAt w ok d D) (hf : Fr F w w') (hd : ∀ k, k < w.heap.size → ok k → ¬ F k) : DiskAt w' ok d D := by
  obtain ⟨hb, A, c, h1, h2, h3⟩ := h
  exact ⟨hb, A, c, h1.fr hf (hd d h1.lt hb), h2.fr hf hd, h3⟩
theorem DiskAt.fr0 {w w' : World} {ok : Nat → Prop} {d : Nat} {D : Dsk} (h : DiskAt w ok d D) (hf : Fr none1 w w') : DiskAt w' ok d D := h.fr hf fun _ _ _ h => h
theorem DiskAt.mono {w : World} {ok ok' : Nat → Prop} {d : Nat} {D : Dsk} (h : DiskAt w ok d D) (hk : ∀ k, k < w.heap.size → ok k → ok' k) : DiskAt w ok' d D := by
  obtain ⟨hb, A, c, h1, h2, h3⟩ := h
  exact ⟨hk d h1.lt hb, A, c, h1, h2.mono hk, h3⟩
theorem DiskAt.tight {w : World} {ok : Nat → Prop} {d : Nat} {D : Dsk} (h : DiskAt w ok d D) : DiskAt w (fun k => ok k ∧ hasTy w [82, 5] k) d D := by
  obtain ⟨hb, A, c, h1, h2, h3⟩ := h
  exact ⟨⟨hb, h1.hasTy (by decide)⟩, A, c, h1, h2.tight (by decide), h3⟩
theorem DiskAt.lt {w : World} {ok : Nat → Prop} {d : Nat} {D : Dsk} (h : DiskAt w ok d D) : d < w.heap.size := by
  obtain ⟨_, _, _, h1, _⟩ := h; exact h1.lt
theorem DiskAt.dok {w : World} {ok : Nat → Prop} {d : Nat} {D : Dsk} (h : DiskAt w ok d D) : DOk D := by
  obtain ⟨_, _, _, _, _, h1⟩ := h; exact h1
def pwE (D : Dsk) : Int := if D.dead then 5 else if D.fuse = 0 then 5 else 0
def pwD (D : Dsk) : Dsk := if D.dead then D else if D.fuse = 0 then { D with dead := true, fuse := -1 } else if 0 < D.fuse then { D with fuse := D.fuse - 1 } else D
theorem pw_bs (D : Dsk) : (pwD D).bs = D.bs ∧ (pwD D).safe = D.safe := by
  unfold pwD; split
  · exact ⟨rfl, rfl⟩
  · split
    · exact ⟨rfl, rfl⟩
    · split <;> exact ⟨rfl, rfl⟩
def toD (d : Nat) : Nat → Prop := fun k => k = d
theorem setD (w : World) (d j : Nat) (u : Value) : Fr (toD d) w (w.setCell ⟨d, j, none⟩ u) := Fr.setCell (F := toD d) w (p := ⟨d, j, none⟩) (show d = d from rfl) u
section
variable {w : World} {ok : Nat → Prop} {d : Nat} {D : Dsk}
/-- The block is written; the row stands. -/
theorem DiskAt.wr {A : Option Addr} {c : Nat} {w' : World} {D' : Dsk} {vs : List Value} (hb : ok d) (h1 : Blk w d 82 vs) (h2 : Own w 5 1 ok A D.bs.length c (bvs D.bs)) (f : Fr (toD d) w w') (k : Blk w' d 82 (dcs A c D')) (hbs : D'.bs = D.bs) (hok : DOk D') : DiskAt w' ok d D' := by
  refine ⟨hb, A, c, k, ?_, hok⟩
  rw [hbs]
  exact h2.fr1 f fun a ha e => h2.ne_blk h1 (by decide) a ha e
theorem new_ok (w : World) : Ret Try.prog 5 [] w fun v w' => v = .pointer (some ⟨w.heap.size, 0, none⟩) ∧ DiskAt w' (from1 w.heap.size) w.heap.size ⟨[], 0, false, -1⟩ ∧ Fr none1 w w' := by
  apply S5_calls
  exact ⟨rfl, ⟨Nat.le_refl _, none, 0, Blk.new w 82 _, Own.nil _ _ _ _, by unfold DOk; simp⟩, Fr.alloc _ _⟩
theorem power_ok (h : DiskAt w ok d D) : Ret Try.prog 65 [.pointer (some ⟨d, 0, none⟩)] w fun v w' => v = .int .i64 (pwE D) ∧ DiskAt w' ok d (pwD D) ∧ Fr (toD d) w w' := by
  have h0 := h
  obtain ⟨hb, A, c, h1, h2, h3, h4, h5, h6⟩ := h
  apply S65_calls
  refine cF rfl ⟨_, rfl, D.dead, by rw [add_g]; exact (h1.cell 2).trans rfl, ?_⟩
  unfold pwE pwD
  refine cB (fun hd => ?_) (fun hd => ?_)
  · rw [if_pos hd, if_pos hd]
    exact ⟨rfl, h0, Fr.refl _ _⟩
  · have hd' : ¬ D.dead = true := by rw [hd]; decide
    rw [if_neg hd', if_neg hd']
    refine ⟨_, rfl, D.fuse, by rw [add_g]; exact (h1.cell 3).trans rfl, ?_⟩
    refine cD (fun hf => ?_) (fun hf => ?_)
    · rw [if_pos hf, if_pos hf]
      have k1 := h1.set 2 (.bool true)
      have k2 := k1.set 3 (.int .i64 (-1))
      have f : Fr (toD d) w ((w.setCell ((⟨d, 0, none⟩ : Addr).add 2) (.bool true)).setCell ((⟨d, 0, none⟩ : Addr).add 3) (.int .i64 (-1))) := by
        rw [add_g, add_g]
        exact (setD _ _ _ _).trans' (setD _ _ _ _)
      refine ⟨_, rfl, by rw [add_g]; exact h1.has 2 (by simp [dcs]), by rw [add_g]; exact h1.free 2, _, rfl, by rw [add_g, add_g]; exact k1.has 3 (by simp [dcs]), by rw [add_g, add_g]; exact k1.free 3, rfl, DiskAt.wr hb h1 h2 f ?_ rfl ⟨h3, h4, by simp⟩, f⟩
      rw [add_g, add_g]; exact k2
    · rw [if_neg hf, if_neg hf]
      refine ⟨_, rfl, D.fuse, by rw [add_g]; exact (h1.cell 3).trans rfl, ?_⟩
      refine cD (fun hp => ?_) (fun hp => ?_)
      · rw [if_pos hp]
        have k1 := h1.set 3 (.int .i64 (D.fuse - 1))
        have f : Fr (toD d) w (w.setCell ((⟨d, 0, none⟩ : Addr).add 3) (.int .i64 (D.fuse - 1))) := by
          rw [add_g]; exact setD _ _ _ _
        refine ⟨_, rfl, D.fuse, by rw [add_g]; exact (h1.cell 3).trans rfl, _, rfl, by rw [add_g]; exact h1.has 3 (by simp [dcs]), by rw [add_g]; exact h1.free 3, ?_⟩
        rw [IntWalk.i64_in (D.fuse - 1) (by omega)]
        refine ⟨rfl, DiskAt.wr hb h1 h2 f ?_ rfl ⟨h3, h4, by simp only; omega, by simp only; omega⟩, f⟩
        rw [add_g]; exact k1
      · rw [if_neg hp]
        exact ⟨rfl, h0, Fr.refl _ _⟩
def apE (D : Dsk) (xs : List UInt8) : Int := if pwE D ≠ 0 then pwE D else if 1048576 - D.bs.length < xs.length then 4 else 0
def apD (D : Dsk) (xs : List UInt8) : Dsk := if apE D xs = 0 then { pwD D with bs := D.bs ++ xs } else pwD D
def plus (ok : Nat → Prop) (w : World) : Nat → Prop := fun k => ok k ∨ w.heap.size ≤ k
theorem append_ok' (h : DiskAt w ok d D) {ok2 : Nat → Prop} {A2 : Option Addr} {c2 : Nat} {xs : List UInt8} (hr : ∀ w', Fr (toD d) w w' → Rd w' ok2 A2 (bvs xs)) :
    Ret Try.prog 49 [.pointer (some ⟨d, 0, none⟩), .slice A2 xs.length c2] w fun v w' => v = .int .i64 (apE D xs) ∧ DiskAt w' (plus ok w) d (apD D xs) ∧ Fr ok w w' := by
  apply S49_calls
  refine (power_ok h).use ?_
  rintro v w1 ⟨rfl, h1, f1⟩
  have hd := h.1
  have f1' : Fr ok w w1 := f1.mono fun k _ e => by have e : k = d := e; subst e; exact hd
  refine ⟨_, rfl, ?_⟩
  unfold apD apE
  refine cN (fun he => ?_) (fun he => ?_)
  · rw [if_pos he, if_neg he]
    exact ⟨rfl, h1.mono fun k _ h => .inl h, f1'⟩
  · rw [if_neg (by omega : ¬ pwE D ≠ 0)]
    obtain ⟨e1, e2⟩ := pw_bs D
    obtain ⟨hb, A, c, k1, k2, k3, k4, k5, k6⟩ := h1
    rw [e1] at k2 k3 k4
    have kc : w1.cell? ⟨d, 0, none⟩ = some (.slice A D.bs.length c) := by rw [k1.cell]; unfold dcs; rw [e1]; rfl
    refine ⟨_, rfl, A, _, c, kc, ?_⟩
    rw [IntWalk.i64_in (1048576 - (D.bs.length : Int)) (by omega)]
    refine cD (fun hl => ?_) (fun hl => ?_)
    · rw [if_pos (by omega), if_neg (by decide)]
      refine ⟨rfl, ⟨.inl hb, A, c, k1, ?_, ⟨by rw [e1]; exact k3, by rw [e1]; exact k4, k5, k6⟩⟩, f1'⟩
      rw [e1]; exact k2.mono fun k _ h => .inl h
    · rw [if_neg (by omega), if_pos rfl]
      obtain ⟨A', c', w2, hrun, ho, hf2, _⟩ := run_append (ty := 36) (c2 := c2) Eby k2 (by rw [bvs_length, Nat.mul_one]) (hr w1 f1) (bvs_one xs) (by omega) (by simp only [maxLen]; omega)
      have k1' := k1.fr hf2 fun ⟨a, ha, e⟩ => k2.ne_blk k1 (by decide) a ha e
      refine ⟨_, rfl, A, _, c, kc, A', _, c', w2, hrun, _, rfl, k1'.has 0 (by simp [dcs]), k1'.free 0, rfl, ?_, ?_⟩
      all_goals have hs : Fr (toD d) w2 (w2.setCell ⟨d, 0, none⟩ (.slice A' (D.bs.length + xs.length) c')) := setD _ _ _ _
      · refine ⟨.inl hb, A', c', ?_, ?_, ?_⟩
        · have := k1'.set 0 (.slice A' (D.bs.length + xs.length) c')
          unfold dcs at this ⊢
          simpa using this
        · simp only [List.length_append]
          have e3 : bvs (D.bs ++ xs) = bvs D.bs ++ bvs xs := by simp [bvs]
          rw [e3]
          refine (ho.fr1 hs fun a ha e => ho.ne_blk k1' (by decide) a ha e).mono fun k _ h => ?_
          rcases h with h | h
          · exact .inl h
          · exact .inr (Nat.le_trans f1.size h)
        · refine ⟨by simp only [List.length_append]; omega, by simp only [List.length_append]; omega, k5, k6⟩
      · exact f1'.trans' ((hf2.mono fun k _ ⟨a, ha, e⟩ => e ▸ (k2.has a ha).1).trans' (hs.mono fun k _ e => by have e : k = d := e; subst e; exact hd))
def syE (D : Dsk) : Int := pwE D
def syD (D : Dsk) : Dsk := if pwE D = 0 then { pwD D with safe := D.bs.length } else pwD D
theorem sync_ok (h : DiskAt w ok d D) : Ret Try.prog 41 [.pointer (some ⟨d, 0, none⟩)] w fun v w' => v = .int .i64 (syE D) ∧ DiskAt w' ok d (syD D) ∧ Fr (toD d) w w' := by
  apply S41_calls
  refine (power_ok h).use ?_
  rintro v w1 ⟨rfl, h1, f1⟩
  refine ⟨_, rfl, ?_⟩
  unfold syD syE
  refine cN (fun he => ?_) (fun he => ?_)
  · rw [if_neg he]
    exact ⟨rfl, h1, f1⟩
  · rw [if_pos he]
    obtain ⟨e1, e2⟩ := pw_bs D
    obtain ⟨hb, A, c, k1, k2, k3, k4, k5, k6⟩ := h1
    have kc : w1.cell? ⟨d, 0, none⟩ = some (.slice A (pwD D).bs.length c) := by rw [k1.cell]; rfl
    have f2 : Fr (toD d) w1 (w1.setCell ((⟨d, 0, none⟩ : Addr).add 1) (.int .i64 ((pwD D).bs.length : Int))) := by
      rw [add_g]; exact setD _ _ _ _
    refine ⟨_, rfl, A, _, c, kc, _, rfl, by rw [add_g]; exact k1.has 1 (by simp [dcs]), by rw [add_g]; exact k1.free 1, by rw [he], DiskAt.wr hb k1 k2 f2 ?_ rfl ⟨by simp only; rw [e1]; exact Nat.le_refl _, k4, k5, k6⟩, f1.trans' f2⟩
    have := k1.set 1 (.int .i64 ((pwD D).bs.length : Int))
    rw [add_g]
    unfold dcs at this ⊢
    simpa [e1] using this
def cuE (D : Dsk) (n : Int) : Int := if pwE D ≠ 0 then pwE D else if 0 ≤ n ∧ n ≤ D.bs.length then 0 else 1
def cuD (D : Dsk) (n : Int) : Dsk := if cuE D n = 0 then { pwD D with bs := D.bs.take n.toNat, safe := n.toNat } else pwD D
theorem cutoff_ok (h : DiskAt w ok d D) (n : Int) : Ret Try.prog 40 [.pointer (some ⟨d, 0, none⟩), .int .i64 n] w fun v w' => v = .int .i64 (cuE D n) ∧ DiskAt w' ok d (cuD D n) ∧ Fr (toD d) w w' := by
  apply S40_calls
  refine (power_ok h).use ?_
  rintro v w1 ⟨rfl, h1, f1⟩
  refine ⟨_, rfl, ?_⟩
  unfold cuD cuE
  refine cN (fun he => ?_) (fun he => ?_)
  · rw [if_pos he, if_neg he]
    exact ⟨rfl, h1, f1⟩
  · rw [if_neg (by omega : ¬ pwE D ≠ 0)]
    obtain ⟨e1, e2⟩ := pw_bs D
    have h1' := h1
    obtain ⟨hb, A, c, k1, k2, k3, k4, k5, k6⟩ := h1
    have hle := k2.le
    rw [e1] at k2 hle
    have kc : w1.cell? ⟨d, 0, none⟩ = some (.slice A D.bs.length c) := by rw [k1.cell]; unfold dcs; rw [e1]; rfl
    refine cD (fun h0 => ?_) (fun h0 => ⟨_, rfl, A, _, c, kc, ?_⟩)
    · rw [if_neg (by omega), if_neg (by decide)]
      exact cT rfl ⟨rfl, h1', f1⟩
    · refine cD (fun hl => ?_) (fun hl => ?_)
      · rw [if_neg (by omega), if_neg (by decide)]
        exact ⟨rfl, h1', f1⟩
      · rw [if_pos (by omega), if_pos rfl]
        obtain ⟨m, rfl⟩ := Int.eq_ofNat_of_zero_le (by omega : 0 ≤ n)
        have hm : m ≤ D.bs.length := by omega
        unfold S40_k2
        rw [Int.toNat_natCast]
        have j1 := k1.set 0 (.slice A m c)
        have j2 := j1.set 1 (.int .i64 (m : Int))
        refine ⟨_, rfl, A, _, c, kc, by omega, by omega, _, rfl, k1.has 0 (by simp [dcs]), k1.free 0, _, rfl, ?_⟩
        rw [slAddr_zero, add_g, Nat.sub_zero, Nat.sub_zero]
        refine ⟨j1.has 1 (by simp [dcs]), j1.free 1, rfl, ?_, ?_⟩
        all_goals have hs : Fr (toD d) w1 ((w1.setCell ⟨d, 0, none⟩ (.slice A m c)).setCell ⟨d, 1, none⟩ (.int .i64 (m : Int))) := (setD _ _ _ _).trans' (setD _ _ _ _)
        · refine ⟨hb, A, c, ?_, ?_, ?_⟩
          · unfold dcs at j2 ⊢
            simp only [List.length_take, Nat.min_eq_left hm]
            simpa using j2
          · simp only [List.length_take, Nat.min_eq_left hm]
            have o := (k2.take (n := m) hm).fr1 hs fun a ha e => k2.ne_blk k1 (by decide) a ha e
            have e3 : (bvs D.bs).take (m * 1) = bvs (D.bs.take m) := by simp [bvs]
            rwa [e3] at o
          · exact ⟨by simp only [List.length_take]; omega, by simp only [List.length_take]; rw [e1] at k4; omega, k5, k6⟩
        · exact f1.trans' hs
def ctD (D : Dsk) (n : Int) : Dsk := if D.dead then D else { D with fuse := if -1 > n then -1 else n }
theorem cut_ok (h : DiskAt w ok d D) (n : Int) (hn : n ≤ 9223372036854775807) : Ret Try.prog 7 [.pointer (some ⟨d, 0, none⟩), .int .i64 n] w fun v w' => v = .tuple ⟨[]⟩ ∧ DiskAt w' ok d (ctD D n) ∧ Fr (toD d) w w' := by
  have h0 := h
  obtain ⟨hb, A, c, h1, h2, h3, h4, h5, h6⟩ := h
  apply S7_calls
  refine cT rfl ⟨_, rfl, D.dead, by rw [add_g]; exact (h1.cell 2).trans rfl, ?_⟩
  unfold ctD
  refine cB (fun hd => ?_) (fun hd => ?_)
  · have hd' : ¬ D.dead = true := by intro e; rw [e] at hd; cases hd
    rw [if_neg hd']
    have f2 : Fr (toD d) w (w.setCell ((⟨d, 0, none⟩ : Addr).add 3) (.int .i64 (if -1 > n then -1 else n))) := by
      rw [add_g]; exact setD _ _ _ _
    refine ⟨_, rfl, by rw [add_g]; exact h1.has 3 (by simp [dcs]), by rw [add_g]; exact h1.free 3, rfl, DiskAt.wr hb h1 h2 f2 ?_ rfl ⟨h3, h4, ?_, ?_⟩, f2⟩
    · rw [add_g]; exact h1.set 3 _
    · simp only; split <;> omega
    · simp only; split <;> omega
  · have hd' : D.dead = true := by cases e : D.dead; rw [e] at hd; cases hd; rfl
    rw [if_pos hd']
    exact ⟨rfl, h0, Fr.refl _ _⟩
/-- How much of what is not safe is kept. -/
def kept (D : Dsk) (keep : Int) : Nat := min keep.toNat (D.bs.length - D.safe)
def crD (D : Dsk) (keep : Int) : Dsk := ⟨D.bs.take (D.safe + kept D keep), D.safe + kept D keep, false, -1⟩
theorem crash_ok (h : DiskAt w ok d D) (keep : Int) : Ret Try.prog 12 [.pointer (some ⟨d, 0, none⟩), .int .i64 keep] w fun v w' => v = .tuple ⟨[]⟩ ∧ DiskAt w' ok d (crD D keep) ∧ Fr (toD d) w w' := by
  obtain ⟨hb, A, c, h1, h2, h3, h4, h5, h6⟩ := h
  have hle := h2.le
  apply S12_calls
  have dr : Fr none1 w w.drew := Fr.drew w
  have j1 := h1.fr dr (fun h => h)
  have dr2 : Fr none1 w.drew w.drew.drew := Fr.drew _
  have i1 := j1.fr dr2 (fun h => h)
  have i2 := (h2.fr dr fun _ _ _ h => h).fr dr2 fun _ _ _ h => h
  refine cF rfl ⟨_, rfl, _, rfl, A, _, c, (j1.cell 0).trans rfl, _, by rw [add_g]; exact (j1.cell 1).trans rfl, ?_⟩
  rw [IntWalk.i64_in ((D.bs.length : Int) - (D.safe : Int)) (by omega)]
  have hk : (if ((D.bs.length : Int) - (D.safe : Int)) < (if 0 > keep then 0 else keep) then ((D.bs.length : Int) - (D.safe : Int)) else (if 0 > keep then 0 else keep)) = (kept D keep : Int) := by
    unfold kept
    split
    · split <;> omega
    · split <;> omega
  rw [hk]
  have hkl : D.safe + kept D keep ≤ D.bs.length := by unfold kept; omega
  unfold S12_k1
  refine ⟨_, rfl, _, rfl, (D.safe : Int), by rw [add_g]; exact (i1.cell 1).trans rfl, A, _, c, (i1.cell 0).trans rfl, ?_⟩
  rw [IntWalk.i64_in ((D.safe : Int) + (kept D keep : Int)) (by omega), show (D.safe : Int) + (kept D keep : Int) = ((D.safe + kept D keep : Nat) : Int) by omega, Int.toNat_natCast]
  generalize hn : D.safe + kept D keep = n at hkl
  refine ⟨by omega, by omega, _, rfl, i1.has 0 (by simp [dcs]), i1.free 0, ?_⟩
  rw [slAddr_zero, Nat.sub_zero, Nat.sub_zero]
  generalize w.drew.drew = w2 at i1 i2 dr2
  have l0 := i1.set 0 (.slice A n c)
  have l1 := l0.set 1 (.int .i64 (n : Int))
  have l2 := l1.set 2 (.bool false)
  have l3 := l2.set 3 (.int .i64 (-1))
  have hs : Fr (toD d) w2 ((((w2.setCell ⟨d, 0, none⟩ (.slice A n c)).setCell ⟨d, 1, none⟩ (.int .i64 (n : Int))).setCell ⟨d, 2, none⟩ (.bool false)).setCell ⟨d, 3, none⟩ (.int .i64 (-1))) :=
    (setD _ _ _ _).trans' ((setD _ _ _ _).trans' ((setD _ _ _ _).trans' (setD _ _ _ _)))
  refine ⟨_, rfl, A, n, c, (l0.cell 0).trans rfl, _, rfl, ?_⟩
  rw [add_g]
  refine ⟨l0.has 1 (by simp [dcs]), l0.free 1, _, rfl, ?_⟩
  rw [add_g]
  refine ⟨l1.has 2 (by simp [dcs]), l1.free 2, _, rfl, ?_⟩
  rw [add_g]
  refine ⟨l2.has 3 (by simp [dcs]), l2.free 3, rfl, ⟨hb, A, c, ?_, ?_, ?_⟩, (dr.mono fun _ _ h => h.elim).trans' ((dr2.mono fun _ _ h => h.elim).trans' hs)⟩
  · unfold crD dcs at *
    simp only [hn, List.length_take, Nat.min_eq_left hkl]
    simpa using l3
  · have o := (i2.take (n := n) hkl).fr1 hs fun a ha e => i2.ne_blk i1 (by decide) a ha e
    have e3 : (bvs D.bs).take (n * 1) = bvs (D.bs.take n) := by simp [bvs]
    rw [e3] at o
    unfold crD
    simp only [hn, List.length_take, Nat.min_eq_left hkl]
    exact o
  · unfold crD DOk
    simp only [hn, List.length_take, Nat.min_eq_left hkl]
    omega
def rdE (D : Dsk) : Int := if D.dead then 5 else 0
def rdB (D : Dsk) : List UInt8 := if D.dead then [] else D.bs
theorem read_ok (h : DiskAt w ok d D) : Ret Try.prog 38 [.pointer (some ⟨d, 0, none⟩)] w fun v w' => ∃ A c, v = .tuple ⟨[.slice A (rdB D).length c, .int .i64 (rdE D)]⟩ ∧ Own w' 5 1 (from1 w.heap.size) A (rdB D).length c (bvs (rdB D)) ∧ Fr none1 w w' := by
  obtain ⟨hb, A, c, h1, h2, h3, h4, h5, h6⟩ := h
  apply S38_calls
  refine cF rfl ⟨_, rfl, D.dead, by rw [add_g]; exact (h1.cell 2).trans rfl, ?_⟩
  unfold rdE rdB
  refine cB (fun hd => ?_) (fun hd => ?_)
  · rw [if_pos hd, if_pos hd]
    exact ⟨none, 0, rfl, Own.nil _ _ _ _, Fr.refl _ _⟩
  · have hd' : ¬ D.dead = true := by rw [hd]; decide
    rw [if_neg hd', if_neg hd']
    have f1 : Fr none1 w (w.alloc (.cells ⟨List.replicate D.bs.length (.int .u8 0)⟩ 5)) := Fr.alloc _ _
    have lit := Own.lit w 5 1 D.bs.length (List.replicate D.bs.length (.int .u8 0)) (by simp) (by simp only [maxLen]; omega)
    have j1 := h1.fr f1 (fun h => h)
    have j2 := h2.fr f1 (fun _ _ _ h => h)
    obtain ⟨w2, hrun, o2, f2⟩ := run_copy_all (dT := 36) (sT := 36) (ty := 3) (c2 := c) Uby Iu8 lit j2.rd (bvs_length D.bs) (bvs_one D.bs)
    refine ⟨_, rfl, A, _, c, (h1.cell 0).trans rfl, _, _, _, _, run_mk Mby w D.bs.length (by omega) (by simp only [maxLen]; omega), _, rfl, A, _, c, (j1.cell 0).trans rfl, _, w2, hrun, _, _, rfl, o2.mono fun k _ h => Nat.le_of_eq h.symm, f1.trans f2 fun k hk e => by subst e; omega⟩
end
end Go.Proofs
