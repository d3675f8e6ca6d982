import Derived.Test.YtohpoigkpdodmaaDiskD
set_option linter.unusedVariables false
namespace Go.Proofs
open Go Go.Eng
def Done (W : World) : Value → World → Prop := fun v w' => v = .bool true ∧ Fr none1 W w'
/-! ### A nil disk -/
theorem nil_power (w : World) : Ret Try.prog 24 [.pointer none] w fun v w' => v = .int .i64 2 ∧ w' = w := by
  apply S24_calls; exact cT rfl ⟨rfl, rfl⟩
theorem nil_append (A : Option Addr) (l c : Nat) (w : World) : Ret Try.prog 11 [.pointer none, .slice A l c] w fun v w' => v = .int .i64 2 ∧ w' = w := by
  apply S11_calls
  refine (nil_power w).use ?_
  rintro v w ⟨rfl, rfl⟩
  exact ⟨_, rfl, cT rfl ⟨rfl, rfl⟩⟩
theorem nil_sync (w : World) : Ret Try.prog 21 [.pointer none] w fun v w' => v = .int .i64 2 ∧ w' = w := by
  apply S21_calls
  refine (nil_power w).use ?_
  rintro v w ⟨rfl, rfl⟩
  exact ⟨_, rfl, cT rfl ⟨rfl, rfl⟩⟩
theorem nil_cutoff (n : Int) (w : World) : Ret Try.prog 25 [.pointer none, .int .i64 n] w fun v w' => v = .int .i64 2 ∧ w' = w := by
  apply S25_calls
  refine (nil_power w).use ?_
  rintro v w ⟨rfl, rfl⟩
  exact ⟨_, rfl, cT rfl ⟨rfl, rfl⟩⟩
theorem nil_cut (n : Int) (w : World) : Ret Try.prog 10 [.pointer none, .int .i64 n] w fun v w' => v = .tuple ⟨[]⟩ ∧ w' = w := by
  apply S10_calls; exact cF rfl (cF rfl ⟨rfl, rfl⟩)
theorem nil_crash (n : Int) (w : World) : Ret Try.prog 13 [.pointer none, .int .i64 n] w fun v w' => v = .tuple ⟨[]⟩ ∧ w' = w := by
  apply S13_calls; exact cT rfl ⟨rfl, rfl⟩
theorem nil_read (w : World) : Ret Try.prog 14 [.pointer none] w fun v w' => v = .tuple ⟨[.slice none 0 0, .int .i64 2]⟩ ∧ w' = w := by
  apply S14_calls; exact cT rfl ⟨rfl, rfl⟩
theorem nil_dead (w : World) : Ret Try.prog 12 [.pointer none] w fun v w' => v = .bool false ∧ w' = w := by
  apply S12_calls; exact cF rfl ⟨rfl, rfl⟩
theorem nil_safe (w : World) : Ret Try.prog 15 [.pointer none] w fun v w' => v = .int .i64 0 ∧ w' = w := by
  apply S15_calls; exact cT rfl ⟨rfl, rfl⟩
theorem nil_copy (w : World) : Ret Try.prog 20 [.pointer none] w fun v w' => v = .pointer none ∧ w' = w := by
  apply S20_calls; exact cT rfl ⟨rfl, rfl⟩
def nilE (k : Int) : Int := if Int.tmod k 7 < 3 ∨ Int.tmod k 7 = 6 then 2 else 0
theorem nil_does (k : Int) (hk : 0 ≤ k) (A : Option Addr) (l c : Nat) (n : Int) (w : World) : Ret Try.prog 17 [.pointer none, .agg ⟨[.int .u8 k, .slice A l c, .int .i64 n]⟩] w fun v w' => v = .int .i64 (nilE k) ∧ Fr none1 w w' := by
  apply S17_calls
  have b0 := Blk.new w 36 [.int .u8 k, .slice A l c, .int .i64 n]
  have f0 : Fr none1 w (w.alloc (.cells ⟨[.int .u8 k, .slice A l c, .int .i64 n]⟩ 36)) := Fr.alloc _ _
  show ∃ t6, World.cell? (w.alloc (.cells ⟨[.int .u8 k, .slice A l c, .int .i64 n]⟩ 36)) _ = _ ∧ _
  generalize w.alloc (.cells ⟨[.int .u8 k, .slice A l c, .int .i64 n]⟩ 36) = w0 at b0 f0 ⊢
  have h0 : 0 ≤ Int.tmod k 7 := Int.tmod_nonneg _ hk
  have h7 : Int.tmod k 7 < 7 := Int.tmod_lt_of_pos _ (by decide)
  refine ⟨k, (b0.cell 0).trans rfl, by decide, ?_⟩
  unfold nilE
  generalize Int.tmod k 7 = q at h0 h7 ⊢
  refine cD (fun k0 => ?_) (fun k0 => cD (fun k1 => ?_) (fun k1 => cD (fun k2 => ?_) (fun k2 => cD (fun k3 => ?_) (fun k3 => cD (fun k4 => ?_) (fun k4 => cD (fun k6 => ?_) (fun k6 => ?_))))))
  · refine ⟨A, l, c, (b0.cell 1).trans rfl, ?_⟩
    refine (nil_append A l c w0).use ?_
    rintro v w1 ⟨rfl, rfl⟩
    exact ⟨_, rfl, by rw [if_pos (by omega)], f0⟩
  · refine (nil_sync w0).use ?_
    rintro v w1 ⟨rfl, rfl⟩
    exact ⟨_, rfl, by rw [if_pos (by omega)], f0⟩
  · refine ⟨_, (b0.cell 2).trans rfl, ?_⟩
    refine (nil_cutoff n w0).use ?_
    rintro v w1 ⟨rfl, rfl⟩
    exact ⟨_, rfl, by rw [if_pos (by omega)], f0⟩
  · refine ⟨_, (b0.cell 2).trans rfl, ?_⟩
    refine (nil_cut n w0).use ?_
    rintro v w1 ⟨rfl, rfl⟩
    exact ⟨rfl, by rw [if_neg (by omega)], f0⟩
  · refine ⟨_, (b0.cell 2).trans rfl, ?_⟩
    refine (nil_crash n w0).use ?_
    rintro v w1 ⟨rfl, rfl⟩
    exact ⟨rfl, by rw [if_neg (by omega)], f0⟩
  · have hmk := run_mk M28 w0 400000 (by decide) (by decide)
    have f1 : Fr none1 w0 (w0.alloc (.cells ⟨List.replicate 400000 (.int .u8 0)⟩ 5)) := Fr.alloc _ _
    refine ⟨_, _, _, _, hmk, ?_⟩
    refine (nil_append _ _ _ _).use ?_
    rintro v w1 ⟨rfl, rfl⟩
    exact ⟨_, rfl, by rw [if_pos (by omega)], f0.trans' f1⟩
  · exact ⟨by rw [if_neg (by omega)], f0⟩
theorem diskNil_ok (k : Int) (hk : 0 ≤ k ∧ k < 256) (A : Option Addr) (l c : Nat) (n : Int) (w : World) : Ret Try.prog 6 [.agg ⟨[.int .u8 k, .slice A l c, .int .i64 n]⟩] w (Done w) := by
  apply S6_calls
  have b0 := Blk.new w 36 [.int .u8 k, .slice A l c, .int .i64 n]
  have f0 : Fr none1 w (w.alloc (.cells ⟨[.int .u8 k, .slice A l c, .int .i64 n]⟩ 36)) := Fr.alloc _ _
  show Calls Try.prog 8 ⟨[]⟩ (w.alloc (.cells ⟨[.int .u8 k, .slice A l c, .int .i64 n]⟩ 36)) _
  generalize w.alloc (.cells ⟨[.int .u8 k, .slice A l c, .int .i64 n]⟩ 36) = w0 at b0 f0 ⊢
  refine (shown_ok w0).use ?_
  rintro v w1 ⟨rfl, f1⟩
  have b1 := b0.fr f1 (fun h => h)
  refine ⟨_, rfl, ?_⟩
  refine (nil_read w1).use ?_
  rintro v w1 ⟨rfl, rfl⟩
  refine ⟨_, _, _, _, rfl, k, (b1.cell 0).trans rfl, by decide, k, (b1.cell 0).trans rfl, A, l, c, (b1.cell 1).trans rfl, n, (b1.cell 2).trans rfl, ?_⟩
  refine (nil_does k hk.1 A l c n w1).use ?_
  rintro v w2 ⟨rfl, f2⟩
  refine ⟨_, rfl, cT rfl (cT rfl ?_)⟩
  have f := f0.trans' (f1.trans' f2)
  have h0 : 0 ≤ Int.tmod k 7 := Int.tmod_nonneg _ hk.1
  unfold nilE
  generalize Int.tmod k 7 = q at h0 ⊢
  have tail : Calls Try.prog 12 ⟨[(.pointer none)]⟩ w2 fun e w__3 =>
      ∃ (t39 : Bool), e = .returned (.bool t39) ∧
      cond (!t39) (
        Calls Try.prog 15 ⟨[(.pointer none)]⟩ w__3 fun e w__4 =>
          ∃ (t44 : Int), e = .returned (.int .i64 t44) ∧
          cond (decide ((t44 : Int) = 0)) (
            Calls Try.prog 20 ⟨[(.pointer none)]⟩ w__4 fun e w__5 =>
              ∃ (t49 : Option Addr), e = .returned (.pointer t49) ∧ Done w (.bool (Option.isNone t49)) w__5
          ) (Done w (.bool false) w__4)
      ) (Done w (.bool false) w__3) := by
    refine (nil_dead w2).use ?_
    rintro v w2 ⟨rfl, rfl⟩
    refine ⟨_, rfl, cT rfl ?_⟩
    refine (nil_safe _).use ?_
    rintro v w2 ⟨rfl, rfl⟩
    refine ⟨_, rfl, cT rfl ?_⟩
    refine (nil_copy _).use ?_
    rintro v w2 ⟨rfl, rfl⟩
    exact ⟨_, rfl, rfl, f⟩
  refine cD (fun h3 => ?_) (fun h3 => ?_)
  · refine cT ?_ tail
    rw [if_pos (.inl h3)]; rfl
  · refine cT ?_ tail
    by_cases h6 : q = 6
    · rw [if_pos (.inr h6)]; simp [h6]
    · rw [if_neg (by omega)]; simp [h6]
/-! ### DiskCuts -/
section
variable {W : World}
theorem plus_bel {B : Nat} {ok : Nat → Prop} {w : World} (hok : ∀ k, ok k → B ≤ k) (hB : B ≤ w.heap.size) : ∀ k, plus ok w k → B ≤ k := fun k h => by
  rcases h with h | h
  · exact hok k h
  · omega
/-- A disk of the law's own. -/
def DIn (B : Nat) (w : World) (d : Nat) (D : Dsk) : Prop := DiskAt w (from1 B) d D
theorem DIn.of {B : Nat} {w w' : World} {d : Nat} {D : Dsk} (hB : B ≤ w.heap.size) (h : DiskAt w' (plus (from1 B) w) d D) : DIn B w' d D := h.mono fun k _ h => plus_bel (fun _ h => h) hB k h
theorem Bel.of {B : Nat} {w w' : World} (f : Fr (from1 B) w w') : Bel B w w' := f
theorem toD_bel {B d : Nat} {w w' : World} (hd : B ≤ d) (f : Fr (toD d) w w') : Bel B w w' := f.bel fun k e => by have e : k = d := e; omega
theorem diskCuts_ok (n many : Int) (hn : 0 ≤ n ∧ n < 256) (hm : 0 ≤ many ∧ many < 256) (W : World) : Ret Try.prog 3 [.int .u8 n, .int .u8 many] W (Done W) := by
  apply S3_calls
  refine (shown_ok _).use ?_
  rintro v w1 ⟨rfl, f1⟩
  refine ⟨_, rfl, ?_⟩
  refine (new_ok w1).use ?_
  rintro v w2 ⟨rfl, h2, f2⟩
  have hd : W.heap.size ≤ w1.heap.size := f1.size
  have g2 : Bel W.heap.size W w2 := f1.bel0.trans' f2.bel0
  have h2' : DIn W.heap.size w2 w1.heap.size ⟨[], 0, false, -1⟩ := h2.mono fun k _ h => Nat.le_trans hd h
  generalize w1.heap.size = d at h2' hd ⊢
  refine ⟨_, rfl, cF rfl ?_⟩
  unfold S3_k0
  rw [IntWalk.i64_in n (by omega)]
  refine (cut_ok h2' n (by omega)).use ?_
  rintro v w3 ⟨rfl, h3, f3⟩
  have g3 := g2.trans' (toD_bel hd f3)
  have e3 : ctD ⟨[], 0, false, -1⟩ n = ⟨[], 0, false, n⟩ := by unfold ctD; simp; omega
  rw [e3] at h3
  refine ⟨rfl, ?_⟩
  -- so many bytes, so much of the fuse
  refine ⟨fun s w' => ∃ (i : Nat) (D : Dsk), s.2.1 = (i : Int) ∧ (i : Int) ≤ many ∧ s.1 = (D.bs.length : Int) ∧ DIn W.heap.size w' d D ∧ Bel W.heap.size W w' ∧ D.safe = 0 ∧ D.bs.length ≤ i ∧ ((D.dead = false ∧ D.bs.length = i ∧ D.fuse = n - i ∧ (i : Int) ≤ n) ∨ (D.dead = true ∧ (D.bs.length : Int) = n ∧ n < i)), fun s _ => many.toNat - s.2.1.toNat, ⟨0, _, rfl, by omega, rfl, h3, g3, rfl, Nat.le_refl _, .inl ⟨rfl, rfl, by simp, by omega⟩⟩, ?_⟩
  rintro J ⟨done, i', ⟨⟩⟩ w4 ⟨i, D, hi, him, hdone, h4, g4, hs4, hl4, hst⟩
  dsimp only at hi hdone ⊢
  subst hi hdone
  rw [IntWalk.i64_in many (by omega)]
  refine cD (fun hlt => ?_) (fun hlt => ?_)
  · unfold S3_k2
    rw [IntWalk.i64_in n (by omega)]
    have hu : 0 ≤ IntKind.u8.wrap (i : Int) ∧ IntKind.u8.wrap (i : Int) < 256 := by unfold IntKind.wrap; simp [IntKind.bits, IntKind.signed]; omega
    have hbv : [Value.int .u8 (IntKind.u8.wrap (i : Int))] = bvs [UInt8.ofNat (IntKind.u8.wrap (i : Int)).toNat] := by simp [bvs, bv]; omega
    have a5 : Fr none1 w4 (w4.alloc (.cells ⟨[.int .u8 (IntKind.u8.wrap (i : Int))]⟩ 5)) := Fr.alloc _ _
    have lit := Own.lit w4 5 1 1 [.int .u8 (IntKind.u8.wrap (i : Int))] rfl (by simp [maxLen])
    have h5 := h4.fr0 a5
    have hdl := h4.lt
    have rd := lit.rd
    generalize [Value.int .u8 (IntKind.u8.wrap (i : Int))] = cs at hbv a5 lit h5 rd ⊢
    subst hbv
    refine (append_ok' h5 (xs := [UInt8.ofNat (IntKind.u8.wrap (i : Int)).toNat]) (c2 := 1) (fun w' f => rd.fr f fun k _ h1 e => by have e : k = d := e; omega)).use ?_
    rintro v w6 ⟨rfl, h6, f6⟩
    have h6' := DIn.of (Nat.le_trans g4.size a5.size) h6
    have g6 := (g4.trans' a5.bel0).trans' f6
    refine ⟨_, rfl, ?_⟩
    rcases hst with ⟨hdd, hlen, hfu, hin⟩ | ⟨hdd, hlen, hin⟩
    · by_cases hz : (i : Int) = n
      · -- the fuse is gone
        have hf0 : D.fuse = 0 := by omega
        have eE : apE D [UInt8.ofNat (IntKind.u8.wrap (i : Int)).toNat] = 5 := by unfold apE pwE; simp [hdd, hf0]
        have eD : apD D [UInt8.ofNat (IntKind.u8.wrap (i : Int)).toNat] = { D with dead := true, fuse := -1 } := by unfold apD pwD; rw [eE]; simp [hdd, hf0]
        rw [eE]
        rw [eD] at h6'
        refine cF (by simp; omega) (cT rfl (cF rfl (cF rfl ?_)))
        rw [IntWalk.i64_in ((i : Int) + 1) (by omega)]
        exact ⟨⟨i + 1, { D with dead := true, fuse := -1 }, rfl, by omega, rfl, h6', g6, hs4, by simp only; omega, .inr ⟨rfl, by simp only; omega, by omega⟩⟩, by dsimp only; omega⟩
      · have eP : pwE D = 0 := by unfold pwE; simp [hdd]; omega
        have eE : apE D [UInt8.ofNat (IntKind.u8.wrap (i : Int)).toNat] = 0 := by unfold apE; rw [eP]; simp; omega
        have ePD : pwD D = { D with fuse := D.fuse - 1 } := by unfold pwD; rw [if_neg (by rw [hdd]; decide), if_neg (by omega), if_pos (by omega)]
        have eD : apD D [UInt8.ofNat (IntKind.u8.wrap (i : Int)).toNat] = { D with bs := D.bs ++ [UInt8.ofNat (IntKind.u8.wrap (i : Int)).toNat], fuse := D.fuse - 1 } := by unfold apD; rw [eE, if_pos rfl, ePD]
        rw [eE]
        rw [eD] at h6'
        refine cF (by simp; omega) (cF rfl (cF rfl (cT rfl ?_)))
        rw [IntWalk.i64_in ((i : Int) + 1) (by omega), IntWalk.i64_in ((D.bs.length : Int) + 1) (by omega)]
        exact ⟨⟨i + 1, _, rfl, by omega, by simp, h6', g6, hs4, by simp; omega, .inl ⟨hdd, by simp; omega, by simp only; omega, by omega⟩⟩, by dsimp only; omega⟩
    · have eE : apE D [UInt8.ofNat (IntKind.u8.wrap (i : Int)).toNat] = 5 := by unfold apE pwE; simp [hdd]
      have eD : apD D [UInt8.ofNat (IntKind.u8.wrap (i : Int)).toNat] = D := by unfold apD pwD; rw [eE]; simp [hdd]
      rw [eE]
      rw [eD] at h6'
      refine cF (by simp; omega) (cT rfl (cF rfl (cF rfl ?_)))
      rw [IntWalk.i64_in ((i : Int) + 1) (by omega)]
      exact ⟨⟨i + 1, D, rfl, by omega, rfl, h6', g6, hs4, by omega, .inr ⟨hdd, hlen, by omega⟩⟩, by dsimp only; omega⟩
  · refine (dead_ok h4).use ?_
    rintro v w4 ⟨rfl, rfl⟩
    rw [IntWalk.i64_in n (by omega), IntWalk.i64_in many (by omega)]
    refine ⟨_, rfl, cF ?_ ?_⟩
    · rcases hst with ⟨hdd, hlen, hfu, hin⟩ | ⟨hdd, hlen, hin⟩
      · rw [hdd]; simp; omega
      · rw [hdd]; simp; omega
    · have hlb : D.bs.length ≤ 255 := by omega
      refine (crash_ok h4 1073741824).use ?_
      rintro v w5 ⟨rfl, h5, f5⟩
      have e5 : crD D 1073741824 = ⟨D.bs, D.bs.length, false, -1⟩ := by
        have hk : kept D 1073741824 = D.bs.length := by unfold kept; omega
        unfold crD; rw [hk, hs4, Nat.zero_add, List.take_length]
      rw [e5] at h5
      refine ⟨rfl, ?_⟩
      refine (read_ok h5).use ?_
      rintro v w6 ⟨A6, c6, rfl, o6, f6⟩
      refine ⟨_, _, _, _, rfl, cT rfl (cT rfl (cT (by simp [rdB]) ?_))⟩
      refine (dead_ok (h5.fr0 f6)).use ?_
      rintro v w6 ⟨rfl, rfl⟩
      refine ⟨_, rfl, cT rfl ?_⟩
      refine (safe_ok (h5.fr0 f6)).use ?_
      rintro v w6 ⟨rfl, rfl⟩
      exact ⟨_, rfl, by simp, ((g4.trans' (toD_bel hd f5)).trans' f6.bel0).top⟩
end
end Go.Proofs
