/- Claims: BankerIs. -/
import Derived.Test.YtlmbbcmaellkoaaBkI08
import Derived.Test.YtlmbbcmaellkoaaMapX
set_option linter.unusedVariables false
namespace Go.Proofs
open Go Go.Eng
theorem Umb : Try.prog.underlying 33 = some (.map 3 4) := by kernel_rfl
theorem Uint : Try.prog.underlying 3 = some (.int .i64) := by kernel_rfl
theorem i64_rng {a : Nat} (h : a ≤ 1000000) : IntKind.i64.min ≤ (a : Int) ∧ (a : Int) ≤ IntKind.i64.max := by
  simp [IntKind.min, IntKind.max, IntKind.bits, IntKind.signed]; omega
def inNats (l : List Nat) : Int → Option Value := fun a => if a ∈ natI l then some (.bool true) else none
theorem mem_natI {l : List Nat} {n : Nat} : (n : Int) ∈ natI l ↔ n ∈ l := by
  have := natI_contains l n
  rw [Bool.eq_iff_iff] at this
  simpa using this
section
variable {W : World} {A : Option Addr} {al : List Cl} {c : Nat}
theorem bankerIs_ok (h : RowAt W.heap.size 2 (ClQ W W.heap.size) A al) (hc : al.length ≤ c) (hm : c ≤ 9223372036854775807) : Ret Try.prog 5 [.slice A al.length c] W (Done W) := by
  apply S5_calls
  refine (shown_ok W).use ?_
  rintro v w1 ⟨rfl, f1⟩
  refine ⟨_, rfl, ?_⟩
  refine (few_ok h f1.bel0 (Nat.le_refl _) hc hm).use ?_
  rintro v w1 ⟨rfl, rfl⟩
  have hcl := (fw_cls h).fr0 f1
  have hfl := (fw_len al).1
  generalize fw al = xs at hcl hfl
  refine ⟨_, _, _, rfl, ?_⟩
  refine (Order_ok hcl c).use ?_
  rintro v w2 ⟨hv, f2⟩
  obtain ⟨Ao, co, rfl, oo⟩ := hv.out
  have f02 := f1.trans' f2
  have hcl2 := hcl.fr0 f2
  refine ⟨_, _, _, _, rfl, ?_⟩
  cases ho : OrdC (cms xs) with
  | none =>
    refine cT rfl (cT rfl (cT rfl (cD (fun h0 => ⟨rfl, f02⟩) (fun h0 => ?_))))
    refine (Right_ok hcl2 c).use ?_
    rintro v w3 ⟨rfl, f3⟩
    have hx0 : xs = [] := List.eq_nil_of_length_eq_zero (by omega)
    have : rightB (cms xs) = false := by
      unfold OrdC at ho
      split at ho
      · rw [hx0] at ho; simp [cms, ord, gr] at ho
      · rename_i h; simpa using h
    rw [this]
    exact ⟨_, rfl, rfl, f02.trans' f3⟩
  | some r =>
    rw [ho] at oo
    simp only [Option.getD_some, Option.isSome_some] at oo ⊢
    refine cF rfl ?_
    have hor : ord (cms xs) = some r := by
      unfold OrdC at ho
      split at ho
      · exact ho
      · cases ho
    obtain ⟨⟨t1, t2, t3, _⟩, hrl⟩ := ord_told hor
    rw [cms_len] at hrl t2
    -- the map of those that were had
    have f3 : Fr none1 w2 (w2.alloc (.map #[] 0)) := Fr.alloc _ _
    have m3 := IM.made w2 Try.prog 3
    have hml := m3.lt
    unfold S5_k0
    have hB2 := f02.size
    have hle := oo.le
    have hcl3 : Cls (w2.alloc (.map #[] 0)) (fun k => k ≠ w2.heap.size) A xs := (hcl2.mono (ok' := fun k => k ≠ w2.heap.size) fun k hk _ => by omega).fr0 f3
    have r3 : Rd (w2.alloc (.map #[] 0)) (fun k => k ≠ w2.heap.size) Ao (ints (natI r)) := (oo.rd.mono (ok' := fun k => k ≠ w2.heap.size) fun k hk _ => by omega).fr f3 fun _ _ _ h => h
    generalize w2.alloc (.map #[] 0) = w3 at f3 m3 hml hcl3 r3 ⊢
    have f03 := f02.trans' f3
    generalize w2.heap.size = m at *
    have m0 : IM w3 Try.prog 3 m 0 0 (inNats (r.take 0)) := by
      rw [show inNats (r.take 0) = (fun _ => none) from by funext a; simp [inNats, natI]]
      exact m3
    refine ⟨fun s w' => ∃ i : Nat, s.1 = (i : Int) ∧ i ≤ r.length ∧ IM w' Try.prog 3 m i i (inNats (r.take i)) ∧ Fr (fun k => k = m) w3 w', fun s _ => r.length - s.1.toNat, ⟨0, rfl, Nat.zero_le _, m0, Fr.refl _ _⟩, ?_⟩
    rintro J ⟨i', ⟨⟩⟩ w4 ⟨i, hi, hil, m4, f4⟩
    dsimp only at hi ⊢
    subst hi
    have r4 := r3.fr f4 fun _ _ h e => h e
    have hcl4 := hcl3.fr f4 fun _ _ h e => h e
    refine cD (fun hlt => ?_) (fun hlt => ?_)
    · have hlt' : i < r.length := by have : (i : Int) < (r.length : Int) := hlt; omega
      have hx : r[i]? = some r[i] := List.getElem?_eq_getElem hlt'
      have ha := t2 _ (List.mem_of_getElem? hx)
      have hpi := fun (k : Nat) (hk : k < r.length) (hik : i < k) => List.pairwise_iff_getElem.1 t3 i k hlt' hk hik
      generalize hae : r[i] = a at hx ha hpi
      have hxi : (natI r)[i]? = some (a : Int) := by unfold natI; rw [List.getElem?_map, hx]; rfl
      obtain ⟨t, ht, hct⟩ := int_at r4 hxi
      have hno : a ∉ r.take i := by
        intro hmem
        obtain ⟨k, hk⟩ := List.getElem?_of_mem hmem
        rw [List.getElem?_take] at hk
        split at hk
        · rename_i hki
          obtain ⟨h1, h2⟩ := List.getElem?_eq_some_iff.1 hk
          obtain ⟨h3, h4⟩ := List.getElem?_eq_some_iff.1 hx
          have := (List.getElem_inj t1).1 (h2.trans h4.symm)
          omega
        · cases hk
      have hf : inNats (r.take i) (a : Int) = none := by unfold inNats; rw [if_neg (by rw [mem_natI]; exact hno)]
      have lk := m4.lookup Uint Umb (Zbool w4) (i64_rng (a := a) (by omega))
      rw [hf] at lk
      refine ⟨t, ht, by omega, by omega, _, hct, cF (decide_eq_false (by omega)) (cF (decide_eq_false (by omega)) ⟨false, w4, lk, cF rfl ?_⟩)⟩
      obtain ⟨w5, r5, m5, f5⟩ := m4.update Uint Umb (by simp only [maxLen]; omega) (i64_rng (a := a) (by omega)) (.bool true)
      rw [hf] at m5
      have e5 : updI (inNats (r.take i)) (a : Int) (some (.bool true)) = inNats (r.take (i + 1)) := by
        funext y
        unfold updI inNats
        rw [take_snoc hx]
        by_cases e : y = (a : Int)
        · subst e; simp [natI]
        · simp [e, natI]
      rw [e5] at m5
      have f35 := f4.trans' f5
      unfold S5_k4
      rw [nextI (by omega)]
      refine ⟨w5, r5, by omega, by omega, ?_⟩
      have rd5 := (r3.fr f35 fun _ _ h e => h e).drop (m := co) (l := i + 1) (sz := 1) (by rw [Go.Eng.ints_length, natI_len]; omega)
      have ed : (ints (natI r)).drop ((i + 1) * 1) = ints (natI (r.drop (i + 1))) := by unfold ints natI; rw [Nat.mul_one, List.map_drop, List.map_drop]
      rw [ed] at rd5
      have hcl5 := hcl3.fr f35 fun _ _ h e => h e
      simp only [Int.toNat_natCast] at rd5 ⊢
      have hdl : (r.drop (i + 1)).length = r.length - (i + 1) := List.length_drop
      refine ⟨fun s w' => ∃ j : Nat, s.1 = (j : Int) ∧ j ≤ r.length - (i + 1) ∧ Fr none1 w5 w', fun s _ => r.length - (i + 1) - s.1.toNat, ⟨0, rfl, Nat.zero_le _, Fr.refl _ _⟩, ?_⟩
      rintro J2 ⟨j', ⟨⟩⟩ w6 ⟨j, hj, hjl, f6⟩
      dsimp only at hj ⊢
      subst hj
      refine cD (fun hlt2 => ?_) (fun hlt2 => ?_)
      · have hlt2' : j < r.length - (i + 1) := by have : (j : Int) < ((r.length - (i + 1) : Nat) : Int) := hlt2; omega
        have hy : (r.drop (i + 1))[j]? = some r[i + 1 + j] := by rw [List.getElem?_drop, List.getElem?_eq_getElem (by omega)]
        have hb := t2 r[i + 1 + j] (List.getElem_mem _)
        have hd := hpi (i + 1 + j) (by omega) (by omega)
        generalize r[i + 1 + j] = b at hy hb hd
        have hyi : (natI (r.drop (i + 1)))[j]? = some (b : Int) := by unfold natI; rw [List.getElem?_map, hy]; rfl
        obtain ⟨t6, ht6, hct6⟩ := int_at (rd5.fr f6 fun _ _ _ h => h) hyi
        have f7 : Fr none1 w5 w6.drew := f6.trans' (Fr.drew w6)
        have hcl7 := hcl5.fr0 f7
        have hxa : xs[a]? = some xs[a] := List.getElem?_eq_getElem ha
        have hxb : xs[b]? = some xs[b] := List.getElem?_eq_getElem hb
        generalize xs[a] = x at hxa
        generalize xs[b] = y at hxb
        obtain ⟨ta, hta, _, _, ca1, _, ran, _, lan, _, _⟩ := cl_at hcl7 hxa
        obtain ⟨tb, htb, _, cb0, _, rbh, _, lbh, _, _, _⟩ := cl_at hcl7 hxb
        refine ⟨t6, ht6, by omega, by omega, _, hct6, cF (decide_eq_false (by omega)) (cF (decide_eq_false (by omega)) ⟨ta, hta, by omega, by omega, tb, htb, by omega, by omega, _, _, _, ca1, _, _, _, cb0, ?_⟩)⟩
        refine (meets_ok (c := x.nc) (c2 := y.hc) ran rbh (by omega) (by omega)).use ?_
        rintro v w7 ⟨rfl, hw7⟩
        subst hw7
        rw [g_at hxa, g_at hxb] at hd
        refine ⟨_, rfl, ?_⟩
        rw [hd]
        refine cF rfl ?_
        rw [nextI (by omega)]
        exact ⟨⟨j + 1, rfl, by omega, f7⟩, by dsimp only; omega⟩
      · rw [nextI (by omega)]
        exact ⟨⟨i + 1, rfl, by omega, m5.fr f6 fun h => h, f35.trans' (f6.mono fun _ _ h => h.elim)⟩, by dsimp only; omega⟩
    · refine cT rfl ⟨?_, f03.trans f4 fun k hk e => by have e : k = m := e; omega⟩
      rw [decide_eq_true (by omega)]
end
end Go.Proofs
