/- Journals: contracts of the reference. -/
import Derived.Test.YthjekadmkconnaaJnI16
set_option linter.unusedVariables false
namespace Go.Proofs
open Go Go.Eng
theorem run_ofString2 {P : Program} {t ty e : TypeId} (ht : P.underlying t = some .string) (hty : P.underlying ty = some (.slice e)) (he : P.underlying e = some (.int .u8)) (w : World) (xs : List UInt8) :
    ∃ c w', (convert t ty (.string (str xs))).run P w = .ok (.slice (some ⟨w.heap.size, 0, none⟩) xs.length c) w' ∧ Rd w' (fun k => k = w.heap.size) (some ⟨w.heap.size, 0, none⟩) (bvs xs) ∧ Fr none1 w w' ∧ xs.length ≤ c := by
  obtain ⟨c, w', h1, h2, h3⟩ := run_ofString ht hty he w xs
  refine ⟨c, w', h1, h2, h3, ?_⟩
  have h4 := Lib.run_convert_string_bytes w t ty e (str xs) ht hty he
  rw [h1] at h4
  simp only [Result.ok.injEq, Value.slice.injEq] at h4
  have h5 := grownCap_ge w (str xs).size 0 e
  rw [str_size] at h5 h4
  omega
theorem Blk.mem {w : World} {b : Nat} {t : TypeId} {vs : List Value} (h : Blk w b t vs) {a : Addr} (ha : a.block = b) {v : Value} (hv : w.cell? a = some v) : v ∈ vs := by
  subst ha
  unfold Blk at h
  unfold World.cell? at hv
  rw [h] at hv
  simp only at hv
  split at hv
  · cases hv
  · rw [List.getElem?_toArray] at hv
    exact List.mem_of_getElem? hv
def RJ (w : World) (q r n : Nat) : Prop := Blk w q 55 (jcs r n)
section
variable {w : World} {r q n : Nat} {D : Dsk}
theorem RefD.ne {w : World} {r q n : Nat} {D : Dsk} (h : RefD w r D) (b : RJ w q r n) : q ≠ r := Blk.ne b h.1 (by decide)
def toRQ (r q : Nat) : Nat → Prop := fun k => k = r ∨ k = q
theorem fnote_ok (h : RefD w r D) (b : RJ w q r n) {A : Option Addr} {c : Nat} {xs : Bs} {ok : Nat → Prop} (hr : Rd w ok A (bvs xs)) (hm : xs.length ≤ 9000000000000000000) (hn : n ≤ 1000000) :
    Ret Try.prog 25 [.pointer (some ⟨q, 0, none⟩), .slice A xs.length c] w fun v w' => v = .int .i64 (ntE D xs) ∧ (RefD w' r (ntD D xs) ∧ RJ w' q r (ntN D xs n)) ∧ Fr (toRQ r q) w w' := by
  apply S25_calls
  refine (fframe_ok (c := c) hr hm).use ?_
  rintro v w1 ⟨A1, c1, rfl, o1, f1⟩
  have h1 := h.fr f1 fun h => h
  have b1 : RJ w1 q r n := Blk.fr b f1 fun h => h
  have f1' : Fr (toRQ r q) w w1 := f1.mono fun _ _ h => h.elim
  refine ⟨_, _, _, _, rfl, ?_⟩
  by_cases hl : xs.length ≤ 1000
  · have e : frV xs = (framed xs, 0) := frV_ok hl
    have e1 : ntE D xs = apE D (framed xs) := if_pos hl
    have e2 : ntD D xs = apD D (framed xs) := if_pos hl
    unfold ntN
    rw [e1, e2]
    rw [e] at o1 ⊢
    have hfl := framed_length xs
    refine cF rfl ?_
    unfold S25_k0
    have fd : Fr none1 w1 w1.drew := Fr.drew w1
    have h2 := h1.fr fd fun h => h
    have b2 : RJ w1.drew q r n := Blk.fr b1 fd fun h => h
    have o2 := o1.fr fd fun _ _ _ h => h
    have f2' : Fr (toRQ r q) w w1.drew := f1'.trans' (fd.mono fun _ _ h => h.elim)
    generalize w1.drew = w2 at h2 b2 o2 f2' ⊢
    have hs := run_toString Uby Uu8 Ustr (c := c1) rfl o2.rd
    have hp := (Blk.cell b2 0).trans (rfl : _ = some (Value.pointer (some ⟨r, 0, none⟩)))
    -- behind the disk
    have rest : ∀ w3, RefD w3 r (apD D (framed xs)) → Fr (toD r) w2 w3 → S25_k1 (some ⟨q, 0, none⟩) (apE D (framed xs)) w3 (fun v w' => v = .int .i64 (apE D (framed xs)) ∧ (RefD w' r (apD D (framed xs)) ∧ RJ w' q r (if apE D (framed xs) = 0 then n + 1 else n)) ∧ Fr (toRQ r q) w w') := by
      intro w3 h3 f3
      have b3 : RJ w3 q r n := Blk.fr b2 f3 (RefD.ne h2 b2)
      have f3' : Fr (toRQ r q) w w3 := f2'.trans' (f3.mono fun k _ e => .inl e)
      refine cD (fun he => ?_) (fun he => ?_)
      · rw [if_pos he]
        refine ⟨_, rfl, _, by rw [add_g]; exact (Blk.cell b3 1).trans rfl, _, rfl, by rw [add_g]; exact Blk.has b3 1 (by simp [jcs]), by rw [add_g]; exact Blk.free b3 1, ?_⟩
        rw [add_g, IntWalk.i64_in _ (by omega)]
        have fs : Fr (toD q) w3 (w3.setCell ⟨q, 1, none⟩ (.int .i64 ((n : Int) + 1))) := setD _ _ _ _
        exact ⟨rfl, ⟨h3.fr fs (Ne.symm (RefD.ne h2 b2)), Blk.set b3 1 _⟩, f3'.trans' (fs.mono fun k _ e => .inr e)⟩
      · rw [if_neg he]
        exact ⟨rfl, ⟨h3, b3⟩, f3'⟩
    refine ⟨_, rfl, ⟨_, hp, _, w2, hs, ?_⟩, ⟨_, w2, hs, _, hp, ?_⟩⟩
    all_goals
      refine (ref_append h2 (framed xs) (by omega)).use ?_
      rintro v w3 ⟨rfl, h3, f3⟩
      exact ⟨_, rfl, rest w3 h3 f3⟩
  · have e : frV xs = ([], 4) := if_neg hl
    have e1 : ntE D xs = 4 := if_neg hl
    have e2 : ntD D xs = D := if_neg hl
    unfold ntN
    rw [e1, e2, e, if_neg (by decide)]
    exact cT rfl ⟨rfl, ⟨h1, b1⟩, f1'⟩
theorem frames_cutoff (D : Dsk) (hL : Live D) : cuE D ((scanB D.bs).2 : Int) = 0 ∧ cuD D ((scanB D.bs).2 : Int) = { D with bs := D.bs.take (scanB D.bs).2, safe := (scanB D.bs).2 } := hL.cutoff (scanB_le D.bs)
theorem fopen_j (h : RefD w r D) (hL : Live D) (hsm : D.bs.length ≤ 1000000) : Ret Try.prog 24 [.pointer (some ⟨r, 0, none⟩)] w fun v w' => ∃ (q : Nat) (A : Option Addr) (c : Nat), v = .tuple ⟨[.pointer (some ⟨q, 0, none⟩), .slice A (scanB D.bs).1.length c, .int .i64 0]⟩ ∧
    RS w' A (scanB D.bs).1 ∧ RefD w' r (opD D) ∧ RJ w' q r (scanB D.bs).1.length ∧ Fr (toD r) w w' ∧ w.heap.size ≤ q ∧ q < w'.heap.size := by
  apply S24_calls
  refine (ref_read h).use ?_
  rintro v w ⟨rfl, rfl⟩
  rw [hL.rd.1, hL.rd.2]
  refine ⟨_, _, rfl, cF rfl ?_⟩
  obtain ⟨c1, w1, r1, d1, f1, hc1⟩ := run_ofString2 Ustr Uby Uu8 w D.bs
  refine ⟨_, _, _, w1, r1, ?_⟩
  refine (fscan_ok (c := c1) d1 hc1 hsm).use ?_
  rintro v w2 ⟨A2, c2, rfl, r2, f2⟩
  have h2 := (h.fr f1 fun h => h).fr f2 fun h => h
  have hn := scanB_le D.bs
  have hs1 := f1.size
  have hs2 := f2.size
  have hrlt := h.1.lt
  obtain ⟨o1, o2, vs, q1, q2, qd, s1, s2⟩ := r2
  have k1 : Own w2 30 1 (fun k => o1 k ∧ k ≠ r) A2 (scanB D.bs).1.length c2 vs := q1.mono fun k hk h => ⟨h, by have := s1 k h; omega⟩
  have hq2 : Bss w2 (fun k => True ∧ k ≠ r) vs (scanB D.bs).1 := by
    refine ⟨q2.1, fun i ys hi => ?_⟩
    obtain ⟨B, c, e1, e2, e3⟩ := q2.2 i ys hi
    refine ⟨B, c, e1, e2, ?_⟩
    rcases e3 with e3 | ⟨a, ha, hb, hcells⟩
    · exact .inl e3
    · by_cases hne : a.block = r
      · -- a block of the reference's disk has other cells
        cases hys : ys with
        | nil => exact .inl rfl
        | cons z zs =>
          exfalso
          have hv := hcells 0 _ (by rw [hys]; rfl)
          rw [add_zero'] at hv
          have := Blk.mem h2.1 hne hv
          simp [rcs, bv] at this
      · exact .inr ⟨a, ha, ⟨trivial, hne⟩, hcells⟩
  have rest : ∀ w3 D3, RefD w3 r D3 → Fr (toD r) w2 w3 → Live D3 → D3.bs = D.bs.take (scanB D.bs).2 →
      S24_k1 (some ⟨r, 0, none⟩) A2 (scanB D.bs).1.length c2 w3 (fun v w' => ∃ (q : Nat) (A : Option Addr) (c : Nat), v = .tuple ⟨[.pointer (some ⟨q, 0, none⟩), .slice A (scanB D.bs).1.length c, .int .i64 0]⟩ ∧
        RS w' A (scanB D.bs).1 ∧ RefD w' r (opD D) ∧ RJ w' q r (scanB D.bs).1.length ∧ Fr (toD r) w w' ∧ w.heap.size ≤ q ∧ q < w'.heap.size) := by
    intro w3 D3 h3 f3 hL3 e3
    refine (ref_sync h3).use ?_
    rintro v w4 ⟨rfl, h4, f4⟩
    obtain ⟨t1, t2⟩ := hL3.sync
    rw [t1]
    rw [t2] at h4
    have f24 := f3.trans' f4
    have hs4 := f24.size
    refine ⟨_, rfl, cF rfl ?_⟩
    have fa : Fr none1 w4 (w4.alloc (.cells ⟨jcs r (scanB D.bs).1.length⟩ 55)) := Fr.alloc _ _
    have bj : RJ (w4.alloc (.cells ⟨jcs r (scanB D.bs).1.length⟩ 55)) w4.heap.size r (scanB D.bs).1.length := Blk.new _ _ _
    have eD : ({ D3 with safe := D3.bs.length } : Dsk) = opD D := by
      cases D3
      obtain ⟨l1, l2⟩ := hL3
      simp only at l1 l2 e3
      subst l1 l2 e3
      unfold opD
      simp only [List.length_take, Nat.min_eq_left hn]
    rw [eD] at h4
    refine ⟨w4.heap.size, A2, c2, rfl, ?_, h4.fr fa fun h => h, bj, ?_, by omega, Blk.lt bj⟩
    · have k1' := (k1.fr f24 fun k _ h e => h.2 e).fr fa fun _ _ _ h => h
      have k2' := (hq2.fr f24 fun k _ h e => h.2 e).fr fa fun _ _ _ h => h
      exact ⟨vs, k1'.rd.mono fun _ _ _ => trivial, k2'.mono fun _ _ _ => trivial⟩
    · exact ((f1.trans' f2).mono fun _ _ h => h.elim).trans' (f24.trans' (fa.mono fun _ _ h => h.elim))
  refine ⟨_, _, _, _, rfl, ?_⟩
  rw [str_size]
  refine cD (fun hlt => ?_) (fun hlt => ?_)
  · refine (ref_cutoff h2 ((scanB D.bs).2 : Int)).use ?_
    rintro v w3 ⟨rfl, h3, f3⟩
    obtain ⟨t1, t2⟩ := frames_cutoff D hL
    rw [t1]
    rw [t2] at h3
    exact ⟨_, rfl, cF rfl (rest w3 _ h3 f3 ⟨hL.1, hL.2⟩ rfl)⟩
  · refine rest w2 D h2 (Fr.refl _ _) hL ?_
    rw [List.take_of_length_le (by omega)]
end
end Go.Proofs
