/- Claims of the program: sides, and their order. -/
import Derived.Test.YtlmbbcmaellkoaaBkC08
set_option linter.unusedVariables false
namespace Go.Proofs
open Go Go.Eng
theorem Eint : ElT Try.prog 26 3 1 8 := elT_of (by kernel_rfl)
theorem Eside : ElT Try.prog 36 48 2 8 := elT_of (by kernel_rfl)
theorem Ecl : ElT Try.prog 22 28 2 48 := elT_of (by kernel_rfl)
theorem Ebl : ElT Try.prog 40 4 1 1 := elT_of (by kernel_rfl)
def scell (a : Nat × Nat) : List Value := [.int .u32 (a.1 : Int), .int .u32 (a.2 : Int)]
theorem scell_len (a : Nat × Nat) : (scell a).length = 2 := rfl
theorem scell_one (a : Nat × Nat) : ∀ v ∈ scell a, v.oneCell' = true := by
  intro u hu
  simp only [scell, List.mem_cons, List.not_mem_nil, or_false] at hu
  rcases hu with rfl | rfl <;> rfl
def SidesOf (ss : List (Nat × Nat)) (cl : List Cm) : Prop := ss.length = cl.length ∧ ∀ i s, ss[i]? = some s → Mask s.1 (g cl i).1 ∧ Mask s.2 (g cl i).2
def Okc (cl : List Cm) : Prop := ∀ c ∈ cl, okZ c.1 = true ∧ okZ c.2 = true
theorem Okc.g {cl : List Cm} (h : Okc cl) (i : Nat) : (∀ z ∈ (g cl i).1, 0 ≤ z) ∧ ∀ z ∈ (g cl i).2, 0 ≤ z := by
  unfold Go.Eng.g
  cases hi : cl[i]? with
  | none => simp
  | some c =>
    obtain ⟨h1, h2⟩ := h c (List.mem_of_getElem? hi)
    exact ⟨fun z hz => (okZ_iff.1 h1 z hz).1, fun z hz => (okZ_iff.1 h2 z hz).1⟩
theorem side_at {w : World} {ok : Nat → Prop} {A : Option Addr} {ss : List (Nat × Nat)} (h : Rd w ok A (rws scell ss)) {i : Nat} {s : Nat × Nat} (hx : ss[i]? = some s) : ∃ t, A = some t ∧ ok t.block ∧ w.cell? (t.add (Int.toNat (i : Int) * 2)) = some (.int .u32 (s.1 : Int)) ∧ w.cell? ((t.add (Int.toNat (i : Int) * 2)).add 1) = some (.int .u32 (s.2 : Int)) := by
  obtain ⟨t, ht, hk, hc⟩ := h.elem scell_len hx (by decide)
  have c0 := hc 0 _ (by decide) rfl
  have c1 := hc 1 _ (by decide) rfl
  rw [add_zero'] at c0
  rw [Int.toNat_natCast]
  exact ⟨t, ht, hk, c0, c1⟩
def natI (l : List Nat) : List Int := l.map fun n : Nat => ((n : Nat) : Int)
theorem natI_len (l : List Nat) : (natI l).length = l.length := by simp [natI]
theorem natI_contains (l : List Nat) (n : Nat) : (natI l).contains (n : Int) = l.contains n := by
  rw [Bool.eq_iff_iff]; simp [natI]
  constructor
  · rintro ⟨a, ha, e⟩
    have : a = n := by omega
    subst this; exact ha
  · intro h; exact ⟨n, h, rfl⟩
def othL (cl : List Cm) (out : List Nat) (i n : Nat) : List Int := ((List.range n).filter fun k => !(k == i) && !out.contains k).flatMap fun k => (g cl k).1
theorem othL_succ (cl : List Cm) (out : List Nat) (i n : Nat) : othL cl out i (n + 1) = othL cl out i n ++ (if !(n == i) && !out.contains n then (g cl n).1 else []) := by
  unfold othL
  rw [List.range_succ, List.filter_append, List.flatMap_append]
  congr 1
  rw [List.filter_cons, List.filter_nil]
  split <;> simp
theorem othL_can (cl : List Cm) (out : List Nat) (i : Nat) : (!out.contains i && disj (othL cl out i cl.length) (g cl i).2) = canB cl out i := by
  unfold canB
  congr 1
  rw [Bool.eq_iff_iff, disj_iff, List.all_eq_true]
  unfold othL
  constructor
  · intro h k hk
    by_cases e1 : k = i
    · simp [e1]
    · by_cases e2 : k ∈ out
      · simp [e2]
      · have : disj (g cl i).2 (g cl k).1 = true := by
          rw [disj_comm, disj_iff]
          intro z hz
          exact h z (List.mem_flatMap.2 ⟨k, List.mem_filter.2 ⟨hk, by simp [e1, e2]⟩, hz⟩)
        simp [this]
  · intro h z hz
    obtain ⟨k, hk, hz⟩ := List.mem_flatMap.1 hz
    obtain ⟨hk1, hk2⟩ := List.mem_filter.1 hk
    have := h k hk1
    simp at hk2
    simp [hk2] at this
    rw [disj_comm, disj_iff] at this
    exact this z hz
section
variable {w : World} {ok ok2 : Nat → Prop} {A A2 : Option Addr} {ss : List (Nat × Nat)} {cl : List Cm} {out : List Nat}
theorem others_ok (h : Rd w ok A (rws scell ss)) (hs : SidesOf ss cl) (hl : cl.length ≤ 1000) (h2 : Rd w ok2 A2 (ints (natI out))) (ho : out.length ≤ 1000) (c c2 : Nat) (b : Nat) :
    Ret Try.prog 31 [.slice A ss.length c, .slice A2 out.length c2, .int .i64 (b : Int)] w fun v w' => ∃ m : Nat, v = .int .u32 (m : Int) ∧ Mask m (othL cl out b cl.length) ∧ Fr none1 w w' := by
  apply S31_calls
  have hsl := hs.1
  refine ⟨fun s w' => ∃ i m : Nat, s.1 = (m : Int) ∧ s.2.1 = (i : Int) ∧ i ≤ ss.length ∧ Mask m (othL cl out b i) ∧ Fr none1 w w', fun s _ => ss.length - s.2.1.toNat, ⟨0, 0, rfl, rfl, Nat.zero_le _, Mask.nil, Fr.refl _ _⟩, ?_⟩
  rintro J ⟨m', i', ⟨⟩⟩ w1 ⟨i, m, hm, hi, hil, hmk, f1⟩
  dsimp only at hm hi ⊢
  subst hm hi
  refine cD (fun hlt => ?_) (fun hlt => ?_)
  · have hlt' : i < ss.length := by have : (i : Int) < (ss.length : Int) := hlt; omega
    have hx : ss[i]? = some ss[i] := List.getElem?_eq_getElem hlt'
    generalize ss[i] = s at hx
    obtain ⟨t, ht, _, c0, c1⟩ := side_at (h.fr f1 fun _ _ _ h => h) hx
    refine ⟨t, ht, by omega, by omega, _, c0, _, c1, ?_⟩
    obtain ⟨p1, p2, p3, p4, b2, f2⟩ := cp2 w1 48 (.int .u32 0) (.int .u32 0) (.int .u32 (s.1 : Int)) (.int .u32 (s.2 : Int))
    refine ⟨p1, p2, p3, p4, ?_⟩
    generalize World.setCell _ _ _ = w2 at b2 f2 ⊢
    have f12 := f1.trans' f2
    have hsucc := othL_succ cl out b i
    have k2 : ∀ (t : Bool) , t = (!(i == b) && !out.contains i) → S31_k2 A2 out.length c2 (b : Int) (m : Int) ⟨w1.heap.size, 0, none⟩ A ss.length c ((ss.length : Nat) : Int) (i : Int) t w2 (fun v w' => ∃ m : Nat, v = .int .u32 (m : Int) ∧ Mask m (othL cl out b cl.length) ∧ Fr none1 w w')
        (fun s' w'' => (∃ i m : Nat, s'.1 = (m : Int) ∧ s'.2.1 = (i : Int) ∧ i ≤ ss.length ∧ Mask m (othL cl out b i) ∧ Fr none1 w w'') ∧ ss.length - s'.2.1.toNat < ss.length - (i : Int).toNat) := by
      intro t ht
      rw [← ht] at hsucc
      refine cB (fun e => ?_) (fun e => ?_)
      · rw [e, if_pos rfl] at hsucc
        have hmi := (hs.2 i s hx).1
        refine ⟨_, (b2.cell 0).trans rfl, ?_⟩
        rw [or32 hmk.lt hmi.lt, nextI (by omega)]
        exact ⟨⟨i + 1, _, rfl, rfl, by omega, by rw [hsucc]; exact hmk.or hmi, f12⟩, by dsimp only; omega⟩
      · rw [e] at hsucc
        simp only [Bool.false_eq_true, if_false, List.append_nil] at hsucc
        rw [nextI (by omega)]
        exact ⟨⟨i + 1, _, rfl, rfl, by omega, by rw [hsucc]; exact hmk, f12⟩, by dsimp only; omega⟩
    refine cN (fun hne => ?_) (fun he => ?_)
    · have hne' : i ≠ b := by omega
      have hc := contains_ok (c := c2) (h2.fr f12 fun _ _ _ h => h) (by rw [natI_len]; omega) (i : Int)
      rw [natI_len] at hc
      refine hc.use ?_
      rintro v w2 ⟨rfl, rfl⟩
      refine ⟨_, rfl, k2 _ ?_⟩
      rw [natI_contains]
      simp [hne']
    · have he' : i = b := by omega
      exact k2 false (by simp [he'])
  · have hge : i = ss.length := by have : ¬ (i : Int) < (ss.length : Int) := hlt; omega
    subst hge
    rw [hsl] at hmk
    exact ⟨m, rfl, hmk, f1⟩
theorem order_ok (h : Rd w ok A (rws scell ss)) (hs : SidesOf ss cl) (hk : Okc cl) (hl : cl.length ≤ 1000) (c : Nat) :
    Ret Try.prog 23 [.slice A ss.length c] w fun v w' => (match ord cl with
      | some r => ∃ A' c', v = .tuple ⟨[.slice A' r.length c', .bool true]⟩ ∧ Own w' 3 1 (from1 w.heap.size) A' r.length c' (ints (natI r))
      | none => v = .tuple ⟨[.slice none 0 0, .bool false]⟩) ∧ Fr none1 w w' := by
  apply S23_calls
  have hsl := hs.1
  obtain ⟨i0, hi0, hz0, hs0, hb0, _⟩ : ∃ i : TypeInfo, Try.prog.info? 3 = some i ∧ i.zero = some (.int .i64 0) ∧ i.size = 1 ∧ i.bytes = 8 ∧ True := ⟨_, rfl, rfl, rfl, rfl, trivial⟩
  have hmk := run_make (P := Try.prog) w 26 3 i0 (.int .i64 0) Eint.ut hi0 hz0 .i64 .i64 0 (ss.length : Int) (by omega) (by omega) (by rw [hb0]; omega) (by omega)
  rw [hs0, Int.toNat_natCast, Nat.mul_one, made_list _ _ rfl] at hmk
  have fz : Fr none1 w (w.alloc (.cells ⟨List.replicate ss.length (.int .i64 0)⟩ 3)) := Fr.alloc _ _
  have oz : Own (w.alloc (.cells ⟨List.replicate ss.length (.int .i64 0)⟩ 3)) 3 1 (from1 w.heap.size) (some ⟨w.heap.size, 0, none⟩) 0 ss.length (ints (natI [])) :=
    ⟨rfl, .inr ⟨w.heap.size, _, rfl, Nat.le_refl _, heap_alloc_new w _, Nat.zero_le _, by simp only [maxLen]; omega, by simp, by simp [natI, ints]⟩⟩
  refine ⟨_, _, _, _, hmk, ?_⟩
  refine ⟨fun s w' => ∃ out : List Nat, s.1.2.1 = out.length ∧ out.length ≤ cl.length ∧ gr cl (cl.length - out.length) out = ord cl ∧ Own w' 3 1 (from1 w.heap.size) s.1.1 out.length s.1.2.2 (ints (natI out)) ∧ Fr none1 w w', fun s _ => cl.length - s.1.2.1, ⟨[], rfl, Nat.zero_le _, rfl, oz, fz⟩, ?_⟩
  rintro J ⟨⟨Ao, lo, co⟩, ⟨⟩⟩ w1 ⟨out, hlo, hol, hgr, o1, f1⟩
  dsimp only at hlo o1 ⊢
  subst hlo
  refine cD (fun hlt => ?_) (fun hlt => ?_)
  · have hlt' : out.length < cl.length := by have : (out.length : Int) < (ss.length : Int) := hlt; omega
    obtain ⟨f, hf⟩ : ∃ f, cl.length - out.length = f + 1 := ⟨cl.length - out.length - 1, by omega⟩
    rw [hf] at hgr
    refine ⟨fun s w' => ∃ i : Nat, s.1 = (Ao, out.length, co) ∧ s.2.1 = (i : Int) ∧ i ≤ ss.length ∧ (∀ j, j < i → canB cl out j = false) ∧ Own w' 3 1 (from1 w.heap.size) Ao out.length co (ints (natI out)) ∧ Fr none1 w w', fun s _ => ss.length - s.2.1.toNat, ⟨0, rfl, rfl, Nat.zero_le _, fun j hj => absurd hj (Nat.not_lt_zero j), o1, f1⟩, ?_⟩
    rintro J2 ⟨so, i', ⟨⟩⟩ w2 ⟨i, hso, hi, hil, hno, o2, f2⟩
    dsimp only at hso hi ⊢
    subst hso hi
    refine cD (fun hlt2 => ?_) (fun hlt2 => ?_)
    · have hlt2' : i < ss.length := by have : (i : Int) < (ss.length : Int) := hlt2; omega
      have hx : ss[i]? = some ss[i] := List.getElem?_eq_getElem hlt2'
      generalize ss[i] = s at hx
      obtain ⟨t, ht, _, c0, c1⟩ := side_at (h.fr f2 fun _ _ _ h => h) hx
      refine ⟨t, ht, by omega, by omega, _, c0, _, c1, ?_⟩
      obtain ⟨p1, p2, p3, p4, b3, f3⟩ := cp2 w2 48 (.int .u32 0) (.int .u32 0) (.int .u32 (s.1 : Int)) (.int .u32 (s.2 : Int))
      refine ⟨p1, p2, p3, p4, ?_⟩
      generalize World.setCell _ _ _ = w3 at b3 f3 ⊢
      have fd : Fr none1 w3 w3.drew := Fr.drew w3
      have f24 := f3.trans' fd
      have b4 := b3.fr fd fun h => h
      generalize w3.drew = w4 at f24 b4 ⊢
      have o4 := o2.fr f24 fun _ _ _ h => h
      have f4 := f2.trans' f24
      have hcan := othL_can cl out i
      have hlen : (natI out).length = out.length := natI_len out
      have k4 : ∀ (u : World) (b : Bool), b = canB cl out i → Own u 3 1 (from1 w.heap.size) Ao out.length co (ints (natI out)) → Fr none1 w u → S23_k4 A ss.length c Ao out.length co (i : Int) A ss.length c ((ss.length : Nat) : Int) (i : Int) b u (fun v w' => (match ord cl with
          | some r => ∃ A' c', v = .tuple ⟨[.slice A' r.length c', .bool true]⟩ ∧ Own w' 3 1 (from1 w.heap.size) A' r.length c' (ints (natI r))
          | none => v = .tuple ⟨[.slice none 0 0, .bool false]⟩) ∧ Fr none1 w w')
          (fun s' w'' => (∃ out : List Nat, s'.1.2.1 = out.length ∧ out.length ≤ cl.length ∧ gr cl (cl.length - out.length) out = ord cl ∧ Own w'' 3 1 (from1 w.heap.size) s'.1.1 out.length s'.1.2.2 (ints (natI out)) ∧ Fr none1 w w'') ∧ cl.length - s'.1.2.1 < cl.length - out.length)
          (fun s' w'' => (∃ i : Nat, s'.1 = (Ao, out.length, co) ∧ s'.2.1 = (i : Int) ∧ i ≤ ss.length ∧ (∀ j, j < i → canB cl out j = false) ∧ Own w'' 3 1 (from1 w.heap.size) Ao out.length co (ints (natI out)) ∧ Fr none1 w w'') ∧ ss.length - s'.2.1.toNat < ss.length - (i : Int).toNat) := by
        intro u b hb ou fu
        refine cB (fun e => ?_) (fun e => ?_)
        · have hp : pick cl out = some i := by
            unfold pick
            rw [List.find?_range_eq_some]
            exact ⟨by rw [← hb, e], List.mem_range.2 (by omega), fun j hj => by rw [hno j hj]; rfl⟩
          have fl : Fr none1 u (u.alloc (.cells ⟨[.int .i64 (i : Int)]⟩ 3)) := Fr.alloc _ _
          have lit := Own.lit u 3 1 1 [.int .i64 (i : Int)] rfl (by simp [maxLen])
          obtain ⟨A', c', w', r', o', f', _⟩ := run_append (ty := 26) (m := 1) (c2 := 1) Eint (ou.fr fl fun _ _ _ h => h) rfl lit.rd (fun v hv => by simp at hv; subst hv; rfl) (by omega) (by simp only [maxLen]; omega)
          have hsz : w.heap.size ≤ u.heap.size := fu.size
          refine ⟨A', _, c', w', r', ⟨out ++ [i], by simp, by simp; omega, ?_, ?_, ?_⟩, by simp; omega⟩
          · rw [gr, hp] at hgr
            simp only at hgr
            rw [← hgr, List.length_append]
            congr 1
            simp; omega
          · have e1 : ints (natI (out ++ [i])) = ints (natI out) ++ [.int .i64 (i : Int)] := by simp [natI, ints]
            rw [e1, List.length_append]
            refine o'.mono fun k _ hk => ?_
            rcases hk with hk | hk
            · exact hk
            · have := fl.size
              show w.heap.size ≤ k
              omega
          · exact (fu.trans' fl).trans f' fun k hk ⟨a, ha, e⟩ => by
              have := ((ou.fr fl fun _ _ _ h => h).has a ha).1
              rw [e] at this
              have : w.heap.size ≤ k := this
              omega
        · rw [nextI (by omega)]
          refine ⟨⟨i + 1, rfl, rfl, by omega, fun j hj => ?_, ou, fu⟩, by dsimp only; omega⟩
          by_cases ej : j = i
          · subst ej; rw [← hb, e]
          · exact hno j (by omega)
      have hc := contains_ok (c := co) o4.rd (by omega) (i : Int)
      rw [hlen] at hc
      refine hc.use ?_
      rintro v w4 ⟨rfl, rfl⟩
      rw [natI_contains]
      refine ⟨_, rfl, ?_⟩
      refine cB (fun e => ?_) (fun e => ?_)
      · have hsi := hs.2 i s hx
        refine ⟨?_, _, (b4.cell 1).trans rfl, ?_⟩
        · refine (others_ok (c := c) (c2 := co) ((h.fr f2 fun _ _ _ h => h).fr f24 fun _ _ _ h => h) hs hl o4.rd (by omega) i).use ?_
          rintro v w5 ⟨m, rfl, hm, f5⟩
          refine ⟨_, rfl, _, ((b4.fr f5 fun h => h).cell 1).trans rfl, k4 w5 _ ?_ (o4.fr f5 fun _ _ _ h => h) (f4.trans' f5)⟩
          rw [hm.dec hsi.2 (fun z hz => by
            unfold othL at hz
            obtain ⟨k, _, hz⟩ := List.mem_flatMap.1 hz
            exact (hk.g k).1 z hz), ← hcan, e, Bool.true_and]
        · refine (others_ok (c := c) (c2 := co) ((h.fr f2 fun _ _ _ h => h).fr f24 fun _ _ _ h => h) hs hl o4.rd (by omega) i).use ?_
          rintro v w5 ⟨m, rfl, hm, f5⟩
          refine ⟨_, rfl, k4 w5 _ ?_ (o4.fr f5 fun _ _ _ h => h) (f4.trans' f5)⟩
          rw [hm.dec hsi.2 (fun z hz => by
            unfold othL at hz
            obtain ⟨k, _, hz⟩ := List.mem_flatMap.1 hz
            exact (hk.g k).1 z hz), ← hcan, e, Bool.true_and]
      · have : canB cl out i = false := by rw [← hcan, e]; rfl
        exact ⟨k4 w4 false this.symm o4 f4, k4 w4 false this.symm o4 f4⟩
    · have hge : i = ss.length := by have : ¬ (i : Int) < (ss.length : Int) := hlt2; omega
      subst hge
      have hp : pick cl out = none := by
        unfold pick
        rw [List.find?_range_eq_none]
        intro j hj
        rw [hno j (by omega)]; rfl
      rw [gr, hp] at hgr
      simp only at hgr
      rw [← hgr]
      exact ⟨rfl, f2⟩
  · have hge : out.length = cl.length := by have : ¬ (out.length : Int) < (ss.length : Int) := hlt; omega
    rw [hge, Nat.sub_self, gr] at hgr
    rw [← hgr]
    exact ⟨⟨_, _, rfl, o1⟩, f1⟩
end
end Go.Proofs
