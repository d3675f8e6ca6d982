/- Claims: BankerFirst, BankerTurned. -/
import Derived.Test.YtlmbbcmaellkoaaBkI08
set_option linter.unusedVariables false
namespace Go.Proofs
open Go Go.Eng
theorem right_sub {l l' : List Cm} (h : rightB l = true) (s : l'.Sublist l) : rightB l' = true := by
  rw [rightB_iff] at h ⊢
  exact ⟨Nat.le_trans s.length_le h.1, h.2.sub s⟩
theorem right_perm {l l' : List Cm} (p : l.Perm l') : rightB l = rightB l' := by
  rw [Bool.eq_iff_iff, rightB_iff, rightB_iff]
  exact ⟨fun h => ⟨by rw [← p.length_eq]; exact h.1, h.2.perm p⟩, fun h => ⟨by rw [p.length_eq]; exact h.1, h.2.perm p.symm⟩⟩
theorem safeB_perm {l l' : List Cm} (p : l.Perm l') : safeB l = safeB l' := by
  rw [Bool.eq_iff_iff, safeB_iff, safeB_iff, right_perm p, safe_perm p]
theorem erase_perm {l : List Cm} {i : Nat} (h : i < l.length) : l.Perm (g l i :: l.eraseIdx i) := by
  have e : g l i = l[i] := by unfold Go.Eng.g; rw [List.getElem?_eq_getElem h]; rfl
  rw [e]
  rw [List.eraseIdx_eq_take_drop_succ]
  have e2 : l = l.take i ++ l[i] :: l.drop (i + 1) := by rw [List.getElem_cons_drop h, List.take_append_drop]
  exact (List.Perm.of_eq e2).trans List.perm_middle
def frB (cl : List Cm) (i k : Nat) : Bool := (List.range k).all fun j => (j == i) || disj (g cl i).2 (g cl j).1
theorem frB_succ (cl : List Cm) (i k : Nat) : frB cl i (k + 1) = (frB cl i k && ((k == i) || disj (g cl i).2 (g cl k).1)) := by
  unfold frB
  rw [List.range_succ, List.all_append]
  simp
theorem free_of {cl : List Cm} {i : Nat} (h : frB cl i cl.length = true) : free (g cl i) (cl.eraseIdx i) := by
  intro b hb
  rw [List.mem_eraseIdx_iff_getElem?] at hb
  obtain ⟨j, hne, hj⟩ := hb
  have hjl := (List.getElem?_eq_some_iff.1 hj).1
  unfold frB at h
  rw [List.all_eq_true] at h
  have h1 := h j (List.mem_range.2 hjl)
  have e : g cl j = b := by unfold Go.Eng.g; rw [hj]; rfl
  rw [e] at h1
  simpa [hne] using h1
theorem first_safe {cl : List Cm} {i : Nat} (hi : i < cl.length) (hr : rightB cl = true) (h : frB cl i cl.length = true) : safeB cl = safeB (cl.eraseIdx i) := by
  rw [Bool.eq_iff_iff, safeB_iff, safeB_iff, safe_first (erase_perm hi) (free_of h)]
  simp [hr, right_sub hr (List.eraseIdx_sublist _ _)]
theorem one_safe (c : Cm) : rightB [c] = safeB [c] := by
  rw [Bool.eq_iff_iff, safeB_iff]
  exact ⟨fun h => ⟨h, safe_one c⟩, fun h => h.1⟩
section
variable {W : World} {A : Option Addr} {al : List Cl} {c : Nat}
theorem bankerFirst_ok (h : RowAt W.heap.size 2 (ClQ W W.heap.size) A al) (hc : al.length ≤ c) (hm : c ≤ 9223372036854775807) : Ret Try.prog 6 [.slice A al.length c] W (Done W) := by
  apply S6_calls
  refine (shown_ok W).use ?_
  rintro v w1 ⟨rfl, f1⟩
  refine ⟨_, rfl, ?_⟩
  refine (few_ok h f1.bel0 (Nat.le_refl _) hc hm).use ?_
  rintro v w1 ⟨rfl, rfl⟩
  have hcl := (fw_cls h).fr0 f1
  have hfl := (fw_len al)
  generalize fw al = xs at hcl hfl
  refine ⟨_, _, _, rfl, ?_⟩
  refine (Right_ok hcl c).use ?_
  rintro v w2 ⟨rfl, f2⟩
  have f02 := f1.trans' f2
  have hcl2 := hcl.fr0 f2
  refine ⟨_, rfl, ?_⟩
  cases hr : rightB (cms xs) with
  | false =>
    refine cT rfl (cT rfl ?_)
    refine (Safe_ok hcl2 c).use ?_
    rintro v w3 ⟨rfl, f3⟩
    have : safeB (cms xs) = false := by
      rw [Bool.eq_false_iff]
      intro e
      have := (safeB_iff.1 e).1
      rw [hr] at this; cases this
    rw [this]
    exact ⟨_, rfl, rfl, f02.trans' f3⟩
  | true =>
    refine cF rfl ?_
    have hcl' := cms_len xs
    refine ⟨fun s w' => ∃ i : Nat, s.1 = (i : Int) ∧ i ≤ xs.length ∧ Fr none1 w2 w', fun s _ => xs.length - s.1.toNat, ⟨0, rfl, Nat.zero_le _, Fr.refl _ _⟩, ?_⟩
    rintro J ⟨i', ⟨⟩⟩ w3 ⟨i, hi, hil, f3⟩
    dsimp only at hi ⊢
    subst hi
    refine cD (fun hlt => ?_) (fun hlt => ⟨rfl, f02.trans' f3⟩)
    have hlt' : i < xs.length := by have : (i : Int) < (xs.length : Int) := hlt; omega
    have hx : xs[i]? = some xs[i] := List.getElem?_eq_getElem hlt'
    generalize xs[i] = x at hx
    refine ⟨fun s w' => ∃ k : Nat, s.2.1 = (k : Int) ∧ k ≤ xs.length ∧ s.1 = frB (cms xs) i k ∧ Fr none1 w2 w', fun s _ => xs.length - s.2.1.toNat, ⟨0, rfl, Nat.zero_le _, rfl, f3⟩, ?_⟩
    rintro J2 ⟨fb, k', ⟨⟩⟩ w4 ⟨k, hk, hkl, hfb, f4⟩
    dsimp only at hk hfb ⊢
    subst hk hfb
    have hsucc := frB_succ (cms xs) i k
    refine cD (fun hlt2 => ?_) (fun hlt2 => ?_)
    · have hlt2' : k < xs.length := by have : (k : Int) < (xs.length : Int) := hlt2; omega
      have hy : xs[k]? = some xs[k] := List.getElem?_eq_getElem hlt2'
      generalize xs[k] = y at hy
      have fd : Fr none1 w2 w4.drew := f4.trans' (Fr.drew w4)
      have go : ∀ {u} {b : Bool}, b = frB (cms xs) i (k + 1) → Fr none1 w2 u → (∃ k_1 : Nat, (IntKind.i64.wrap ((k : Int) + 1)) = (k_1 : Int) ∧ k_1 ≤ xs.length ∧ b = frB (cms xs) i k_1 ∧ Fr none1 w2 u) ∧ xs.length - (IntKind.i64.wrap ((k : Int) + 1)).toNat < xs.length - (k : Int).toNat := by
        intro u b hb fu
        rw [nextI (by omega)]
        exact ⟨⟨k + 1, rfl, by omega, hb, fu⟩, by omega⟩
      refine cB (fun e => ?_) (fun e => go (by rw [hsucc, e]; rfl) fd)
      refine cD (fun ek => go (by rw [hsucc, e]; have : k = i := by omega
                                  simp [this]) fd) (fun ek => ?_)
      have ek' : k ≠ i := by omega
      have hcl4 := hcl2.fr0 fd
      obtain ⟨ta, hta, _, _, ca1, _, ran, _, lan, _, _⟩ := cl_at hcl4 hx
      obtain ⟨tb, htb, _, cb0, _, rbh, _, lbh, _, _, _⟩ := cl_at hcl4 hy
      refine ⟨ta, hta, by omega, by omega, tb, htb, by omega, by omega, _, _, _, ca1, _, _, _, cb0, ?_⟩
      refine (meets_ok (c := x.nc) (c2 := y.hc) ran rbh (by omega) (by omega)).use ?_
      rintro v w7 ⟨rfl, hw7⟩
      subst hw7
      refine ⟨_, rfl, go ?_ fd⟩
      rw [hsucc, e, g_at hx, g_at hy]
      simp [ek']
    · have hge : k = xs.length := by have : ¬ (k : Int) < (xs.length : Int) := hlt2; omega
      subst hge
      have fin : ∀ {u}, Fr none1 w2 u → S6_k6 true A xs.length c ((xs.length : Nat) : Int) (i : Int) false u (Done W) (fun s' w'' => (∃ i : Nat, s'.1 = (i : Int) ∧ i ≤ xs.length ∧ Fr none1 w2 w'') ∧ xs.length - s'.1.toNat < xs.length - (i : Int).toNat) := by
        intro u fu
        refine cF rfl ?_
        rw [nextI (by omega)]
        exact ⟨⟨i + 1, rfl, by omega, fu⟩, by dsimp only; omega⟩
      refine cB (fun e => ?_) (fun e => fin f4)
      refine (Safe_ok (hcl2.fr0 f4) c).use ?_
      rintro v w5 ⟨rfl, f5⟩
      refine ⟨_, rfl, ?_⟩
      have f25 := f4.trans' f5
      refine (without_ok (hcl2.fr0 f25) (c := c) (by omega) hm hlt').use ?_
      rintro v w6 ⟨A6, c6, rfl, hcl6, f6⟩
      refine ⟨_, _, _, rfl, ?_⟩
      refine (Safe_ok hcl6 c6).use ?_
      rintro v w7 ⟨rfl, f7⟩
      refine ⟨_, rfl, ?_⟩
      rw [cms_erase, ← first_safe (by omega) hr (by rw [hcl']; exact e)]
      simp only [beq_self_eq_true, Bool.not_true]
      exact fin (f25.trans' (f6.trans' f7))
theorem bankerTurned_ok (h : RowAt W.heap.size 2 (ClQ W W.heap.size) A al) (hc : al.length ≤ c) (hm : c ≤ 9223372036854775807) (n : Int) (hn : 0 ≤ n ∧ n < 256) : Ret Try.prog 7 [.slice A al.length c, .int .u8 n] W (Done W) := by
  apply S7_calls
  refine (shown_ok W).use ?_
  rintro v w1 ⟨rfl, f1⟩
  refine ⟨_, rfl, ?_⟩
  refine (few_ok h f1.bel0 (Nat.le_refl _) hc hm).use ?_
  rintro v w1 ⟨rfl, rfl⟩
  have hcl := (fw_cls h).fr0 f1
  have hfl := (fw_len al)
  generalize fw al = xs at hcl hfl
  refine ⟨_, _, _, rfl, ?_⟩
  refine cD (fun h0 => ?_) (fun h0 => ?_)
  · have hx0 : xs = [] := List.eq_nil_of_length_eq_zero (by omega)
    subst hx0
    refine cT rfl ?_
    refine (Safe_ok hcl c).use ?_
    rintro v w2 ⟨rfl, f2⟩
    have : safeB (cms []) = true := safeB_iff.2 ⟨rightB_iff.2 ⟨by simp [cms], by simp [cms], by simp [cms]⟩, .nil⟩
    rw [this]
    exact ⟨_, rfl, rfl, f1.trans' f2⟩
  unfold S7_k0
  rw [IntWalk.i64_in n (by omega)]
  have t0 : 0 ≤ Int.tmod n (xs.length : Int) := Int.tmod_nonneg _ hn.1
  have t1 : Int.tmod n (xs.length : Int) < (xs.length : Int) := Int.tmod_lt_of_pos _ (by omega)
  obtain ⟨k, hk⟩ : ∃ k : Nat, Int.tmod n (xs.length : Int) = (k : Int) := ⟨(Int.tmod n (xs.length : Int)).toNat, by omega⟩
  rw [hk] at t0 t1 ⊢
  rw [slAddr_zero]
  simp only [Int.toNat_natCast, Nat.sub_zero]
  refine ⟨by omega, by omega, by omega, by omega, by omega, ?_⟩
  have fd : Fr none1 w1 w1.drew := Fr.drew w1
  have hcd := hcl.fr0 fd
  have ht := hcd.1.take (k * 2)
  rw [rws_take clc_len] at ht
  have hdr := hcd.1.drop (m := c) (l := k) (sz := 2) (by rw [rws_length clc_len]; omega)
  rw [rws_drop clc_len] at hdr
  refine two_rows (c := c) hdr ht (fun x hx => ?_) (by rw [List.length_drop]) (by rw [List.length_take]; omega) (by omega) (fun v w' => ∃ (t34_a : Option Addr) (t34_l : Nat) (t34_c : Nat), v = .slice t34_a t34_l t34_c ∧ S7_k1 true A xs.length c t34_a t34_l t34_c w' (Done W)) ?_ |> fun ⟨a1, a2, a3, a4, a5, a6, a7, a8, a9, a10, b1, b2, b3, b4, b5⟩ => ⟨a1, a2, a3, a4, a5, a6, a7, a8, a9, a10, by cases b4; exact b5⟩
  · rcases List.mem_append.1 hx with hx | hx
    · exact hcd.2.1 x (List.mem_of_mem_drop hx)
    · exact hcd.2.1 x (List.mem_of_mem_take hx)
  · intro A' c' w2 _ hcl2 f2
    refine ⟨_, _, _, rfl, ?_⟩
    have f02 := f1.trans' (fd.trans' f2)
    have hx2 := hcd.fr0 f2
    have p : (cms xs).Perm (cms (xs.drop k ++ xs.take k)) := by
      have : xs.Perm (xs.drop k ++ xs.take k) := by
        have := List.perm_append_comm (l₁ := xs.take k) (l₂ := xs.drop k)
        rwa [List.take_append_drop] at this
      exact this.map _
    refine (Safe_ok hx2 c).use ?_
    rintro v w3 ⟨rfl, f3⟩
    refine ⟨_, rfl, ?_⟩
    refine (Safe_ok (hcl2.fr0 f3) c').use ?_
    rintro v w4 ⟨rfl, f4⟩
    refine ⟨_, rfl, cF (by rw [safeB_perm p]; simp) ?_⟩
    have f24 := f3.trans' f4
    refine (Right_ok (hx2.fr0 f24) c).use ?_
    rintro v w5 ⟨rfl, f5⟩
    refine ⟨_, rfl, ?_⟩
    have f25 := f24.trans' f5
    refine (Right_ok (hcl2.fr0 f25) c').use ?_
    rintro v w6 ⟨rfl, f6⟩
    refine ⟨_, rfl, cF (by rw [right_perm p]; simp) ?_⟩
    have f06 := f02.trans' (f25.trans' f6)
    have hx6 := (hx2.fr0 f25).fr0 f6
    refine ⟨fun s w' => ∃ i : Nat, s.1 = (i : Int) ∧ i ≤ xs.length ∧ Fr none1 w6 w', fun s _ => xs.length - s.1.toNat, ⟨0, rfl, Nat.zero_le _, Fr.refl _ _⟩, ?_⟩
    rintro J ⟨i', ⟨⟩⟩ w7 ⟨i, hi, hil, f7⟩
    dsimp only at hi ⊢
    subst hi
    refine cD (fun hlt => ?_) (fun hlt => ⟨rfl, f06.trans' f7⟩)
    have hlt' : i < xs.length := by have : (i : Int) < (xs.length : Int) := hlt; omega
    have hx : xs[i]? = some xs[i] := List.getElem?_eq_getElem hlt'
    generalize xs[i] = x at hx
    unfold S7_k5
    rw [nextI (by omega)]
    simp only [Int.toNat_natCast]
    refine ⟨by omega, by omega, by omega, by omega, by omega, by omega, by omega, by omega, ?_⟩
    have f8 : Fr none1 w6 w7.drew := f7.trans' (Fr.drew w7)
    have hx8 := hx6.fr0 f8
    have d8 := (hx8.1.drop (m := c) (l := i) (sz := 2) (by rw [rws_length clc_len]; omega)).take (1 * 2)
    rw [rws_drop clc_len, rws_take clc_len] at d8
    have e8 : (xs.drop i).take 1 = [x] := by
      obtain ⟨h1, h2⟩ := List.getElem?_eq_some_iff.1 hx
      rw [List.drop_eq_getElem_cons h1, h2]; rfl
    rw [e8] at d8
    have cl8 : Cls w7.drew _ (slAddr A c i 2) [x] := ⟨d8, fun y hy => by
      rw [List.mem_singleton] at hy
      subst hy
      exact hx8.2.1 y (List.mem_of_getElem? hx), by simp⟩
    have e1 : i + 1 - i = [x].length := by simp
    rw [e1]
    refine (Right_ok cl8 (c - i)).use ?_
    rintro v w9 ⟨rfl, f9⟩
    refine ⟨_, rfl, ?_⟩
    refine (Safe_ok (cl8.fr0 f9) (c - i)).use ?_
    rintro v w10 ⟨rfl, f10⟩
    refine ⟨_, rfl, cF (by rw [show cms [x] = [clm x] from rfl, one_safe]; simp) ?_⟩
    rw [nextI (by omega)]
    exact ⟨⟨i + 1, rfl, by omega, f8.trans' (f9.trans' f10)⟩, by dsimp only; omega⟩
end
end Go.Proofs
