/- Claims: all but one; whether a zone may be given. -/
import Derived.Test.YtlmbbcmaellkoaaBkG08
import Derived.Test.YtlmbbcmaellkoaaHp8
set_option linter.unusedVariables false
namespace Go.Proofs
open Go Go.Eng
theorem cms_erase (xs : List Cl) (i : Nat) : cms (xs.eraseIdx i) = (cms xs).eraseIdx i := by
  unfold cms
  rw [Go.ChangeMaps.map_eraseIdx]
theorem cms_append (xs ys : List Cl) : cms (xs ++ ys) = cms xs ++ cms ys := by unfold cms; rw [List.map_append]
theorem cN2 {b : Bool} {A B : Prop} (h1 : b = true → B) (h2 : b = false → A) : cond (!b) A B := by
  cases b
  · exact h2 rfl
  · exact h1 rfl
section
variable {w : World} {ok : Nat → Prop} {A : Option Addr} {xs : List Cl}
theorem Cls.mono {ok' : Nat → Prop} (h : Cls w ok A xs) (hk : ∀ k, k < w.heap.size → ok k → ok' k) : Cls w ok' A xs := ⟨h.1.mono hk, fun x hx => ⟨(h.2.1 x hx).1.mono hk, (h.2.1 x hx).2.1.mono hk, (h.2.1 x hx).2.2⟩, h.2.2⟩
/-- Two stretches of claims, one behind the other, in a row of their own. -/
theorem two_rows {c la lb : Nat} {ya yb : List Cl} {Aa Ab : Option Addr} {ca cb : Nat} (ha : Rd w ok Aa (rws clc ya)) (hb : Rd w ok Ab (rws clc yb)) (hxa : ∀ x ∈ ya ++ yb, ClR w ok x) (hla : ya.length = la) (hlb : yb.length = lb) (hl : la + lb ≤ 100) (Q : Value → World → Prop)
    (k : ∀ A' c' w', Own w' 28 2 (from1 w.heap.size) A' (ya ++ yb).length c' (rws clc (ya ++ yb)) → Cls w' (fun k => ok k ∨ w.heap.size ≤ k) A' (ya ++ yb) → Fr none1 w w' → Q (.slice A' (ya ++ yb).length c') w') :
    ∃ (t9_a : Option Addr) (t9_l : Nat) (t9_c : Nat) (w_ : World),
    (Builtin.append_ #[22, 22] 22 ⟨[(.slice (some ⟨w.heap.size, 0, none⟩) 0 0), (.slice Aa la ca)]⟩).run Try.prog (w.alloc (.cells ⟨[]⟩ 28)) = .ok (.slice t9_a t9_l t9_c) w_ ∧
    ∃ (t14_a : Option Addr) (t14_l : Nat) (t14_c : Nat) (w__1 : World),
    (Builtin.append_ #[22, 22] 22 ⟨[(.slice t9_a t9_l t9_c), (.slice Ab lb cb)]⟩).run Try.prog w_ = .ok (.slice t14_a t14_l t14_c) w__1 ∧
    Q (.slice t14_a t14_l t14_c) w__1 := by
  have lit := Own.lit w 28 2 0 [] (by simp) (by simp)
  have f1 : Fr none1 w (w.alloc (.cells ⟨[]⟩ 28)) := Fr.alloc _ _
  obtain ⟨A2, c2, w2, r2, o2, f2, _⟩ := run_append (ty := 22) (m := la) (c2 := ca) Ecl lit (by rw [rws_length clc_len, hla]) (ha.fr f1 fun _ _ _ h => h) (rws_cells clc_one _) (by omega) (by simp only [maxLen]; omega)
  rw [Nat.zero_add] at r2 o2
  rw [List.nil_append] at o2
  have f02 : Fr none1 w w2 := f1.trans f2 fun k hk ⟨a, ha, e⟩ => by cases ha; simp only at e; omega
  have o2' := o2.mono (ok' := from1 w.heap.size) fun k _ hk => by
    rcases hk with hk | hk
    · exact Nat.le_of_eq hk.symm
    · have := f1.size; show w.heap.size ≤ k; omega
  obtain ⟨A3, c3, w3, r3, o3, f3, _⟩ := run_append (ty := 22) (m := lb) (c2 := cb) Ecl o2' (by rw [rws_length clc_len, hlb]) (hb.fr f02 fun _ _ _ h => h) (rws_cells clc_one _) (by omega) (by simp only [maxLen]; omega)
  have f03 : Fr none1 w w3 := f02.trans f3 fun k hk ⟨a, ha, e⟩ => by
    have : w.heap.size ≤ a.block := (o2'.has a ha).1
    omega
  have e1 : la + lb = (ya ++ yb).length := by rw [List.length_append]; omega
  rw [e1] at r3 o3
  rw [← rws_append] at o3
  have o3' := o3.mono (ok' := from1 w.heap.size) fun k _ hk => by
    rcases hk with hk | hk
    · exact hk
    · have := f02.size; show w.heap.size ≤ k; omega
  refine ⟨A2, la, c2, w2, r2, A3, _, c3, w3, r3, k A3 c3 w3 o3' ⟨o3'.rd.mono fun k _ h => .inr h, fun x hx => ?_, by omega⟩ f03⟩
  have := (hxa x hx).fr f03 fun _ _ _ h => h
  exact ⟨this.1.mono fun k _ h => .inl h, this.2.1.mono fun k _ h => .inl h, this.2.2⟩
theorem without_ok (h : Cls w ok A xs) {c : Nat} (hc : xs.length ≤ c) (hm : c ≤ 9223372036854775807) {i : Nat} (hi : i < xs.length) : Ret Try.prog 13 [.slice A xs.length c, .int .i64 (i : Int)] w fun v w' => ∃ A' c', v = .slice A' (xs.eraseIdx i).length c' ∧ Cls w' (fun k => ok k ∨ w.heap.size ≤ k) A' (xs.eraseIdx i) ∧ Fr none1 w w' := by
  have hlx := h.2.2
  apply S13_calls
  have fd : Fr none1 w w.drew := Fr.drew w
  have hd := h.fr0 fd
  have hs : w.drew.heap.size = w.heap.size := rfl
  unfold S13
  rw [nextI (by omega), slAddr_zero]
  simp only [Int.toNat_natCast, Nat.sub_zero]
  refine ⟨by omega, by omega, by omega, by omega, ?_⟩
  have ht := hd.1.take (i * 2)
  rw [rws_take clc_len] at ht
  have hdr := hd.1.drop (m := c) (l := i + 1) (sz := 2) (by rw [rws_length clc_len]; omega)
  rw [rws_drop clc_len] at hdr
  have e : xs.eraseIdx i = xs.take i ++ xs.drop (i + 1) := List.eraseIdx_eq_take_drop_succ _ _
  refine two_rows (c := c) ht hdr (fun x hx => ?_) (by rw [List.length_take]; omega) (by rw [List.length_drop]) (by omega) (fun v w' => ∃ A' c', v = .slice A' (xs.eraseIdx i).length c' ∧ Cls w' (fun k => ok k ∨ w.heap.size ≤ k) A' (xs.eraseIdx i) ∧ Fr none1 w w') ?_
  · rcases List.mem_append.1 hx with hx | hx
    · exact hd.2.1 x (List.mem_of_mem_take hx)
    · exact hd.2.1 x (List.mem_of_mem_drop hx)
  · intro A' c' w' _ hcl f
    rw [e]
    exact ⟨A', c', rfl, hcl, fd.trans' f⟩
/-! ### Whether a zone may be given -/
def give (cl : List Cm) (who : Nat) (z : Int) : List Cm := cl.set who (z :: (g cl who).1, (g cl who).2)
noncomputable def mayB (cl : List Cm) (who z : Int) : Bool := rightB cl && (decide (0 ≤ who ∧ who < (cl.length : Int) ∧ 0 ≤ z ∧ z < 26) && (!(cl.any fun c => c.1.contains z) && (ord (give cl who.toNat z)).isSome))
theorem g_set {cl : List Cm} {i : Nat} (c : Cm) (hi : i < cl.length) (k : Nat) : g (cl.set i c) k = if k = i then c else g cl k := by
  unfold Go.Eng.g
  rw [List.getElem?_set]
  by_cases e : i = k
  · subst e; simp [hi]
  · rw [if_neg e, if_neg (fun h => e h.symm)]
theorem mem_set_of {cl : List Cm} {i : Nat} {c a : Cm} (h : a ∈ cl.set i c) : a = c ∨ a ∈ cl := (List.mem_or_eq_of_mem_set h).symm
theorem g_mem {cl : List Cm} {i : Nat} (h : i < cl.length) : g cl i ∈ cl := by
  unfold Go.Eng.g
  rw [List.getElem?_eq_getElem h]
  exact List.getElem_mem h
theorem okc_give {cl : List Cm} (h : Okc cl) {i : Nat} (hi : i < cl.length) {z : Int} (hz : 0 ≤ z ∧ z < 26) : Okc (give cl i z) := by
  intro a ha
  rcases mem_set_of ha with rfl | ha
  · obtain ⟨h1, h2⟩ := h _ (g_mem hi)
    refine ⟨?_, h2⟩
    rw [okZ_iff]
    intro y hy
    rcases List.mem_cons.1 hy with rfl | hy
    · exact hz
    · exact okZ_iff.1 h1 y hy
  · exact h a ha
theorem ixf_ok {A : Option Addr} {ss : List (Nat × Nat)} {cl : List Cm} (h : Rd w ok A (rws scell ss)) (hs : SidesOf ss cl) (hk : Okc cl) (hl : cl.length ≤ 1000) {p m : Nat} {z : Int} (hp : Blk w p 45 [.int .u32 (m : Int)]) (hm : Mask m [z]) (c : Nat) :
    Ret Try.prog 27 [.slice A ss.length c, .func (.func 28) ⟨[]⟩ ⟨[.pointer (some ⟨p, 0, none⟩)]⟩] w fun v w' => v = .bool (cl.any fun c => c.1.contains z) ∧ Fr none1 w w' := by
  apply S27_f28_calls
  have hsl := hs.1
  have inner : Ret Try.prog 33 [.slice A ss.length c, .func (.func 28) ⟨[]⟩ ⟨[.pointer (some ⟨p, 0, none⟩)]⟩] w fun v w' => ∃ j : Int, v = .int .i64 j ∧ (0 ≤ j ↔ ∃ i, i < cl.length ∧ z ∈ (g cl i).1) ∧ Fr none1 w w' := by
    apply S33_f28_calls
    refine ⟨fun s w' => ∃ i : Nat, s.1 = (i : Int) ∧ i ≤ ss.length ∧ (∀ j, j < i → z ∉ (g cl j).1) ∧ Fr none1 w w', fun s _ => ss.length - s.1.toNat, ⟨0, rfl, Nat.zero_le _, fun j hj => absurd hj (Nat.not_lt_zero j), Fr.refl _ _⟩, ?_⟩
    rintro J ⟨i', ⟨⟩⟩ w1 ⟨i, hi, hil, hno, f1⟩
    dsimp only at hi ⊢
    subst hi
    refine cD (fun hlt => ?_) (fun hlt => ?_)
    · have hlt' : i < ss.length := by have : (i : Int) < (ss.length : Int) := hlt; omega
      have hx : ss[i]? = some ss[i] := List.getElem?_eq_getElem hlt'
      generalize ss[i] = s at hx
      obtain ⟨t, ht, _, c0, c1⟩ := side_at (h.fr f1 fun _ _ _ h => h) hx
      have hmi := (hs.2 i s hx).1
      refine ⟨t, ht, by omega, by omega, _, c0, _, c1, ?_⟩
      have call : Ret Try.prog 28 [.agg ⟨scell s⟩, .pointer (some ⟨p, 0, none⟩)] w1 fun v w' => v = .bool (!disj (g cl i).1 [z]) ∧ Fr none1 w1 w' := by
        apply S28_calls
        have b2 := Blk.new w1 48 (scell s)
        have f2 : Fr none1 w1 (w1.alloc (.cells ⟨scell s⟩ 48)) := Fr.alloc _ _
        have p2 := (hp.fr f1 fun h => h).fr f2 fun h => h
        refine ⟨_, (b2.cell 0).trans rfl, _, (p2.cell 0).trans rfl, ?_, f2⟩
        rw [hmi.dec hm (hk.g i).1]
      refine call.use ?_
      rintro v w2 ⟨rfl, f2⟩
      have f12 := f1.trans' f2
      refine ⟨_, rfl, cN2 (fun e => ?_) (fun e => ?_)⟩
      · rw [nextI (by omega)]
        refine ⟨⟨i + 1, rfl, by omega, fun j hj => ?_, f12⟩, by dsimp only; omega⟩
        by_cases ej : j = i
        · subst ej
          rw [disj_comm, disj_iff] at e
          exact e z (by simp)
        · exact hno j (by omega)
      · refine ⟨_, rfl, ⟨fun _ => ⟨i, by omega, ?_⟩, fun _ => by omega⟩, f12⟩
        rw [Bool.eq_false_iff, ne_eq, disj_comm, disj_iff] at e
        by_cases hz : z ∈ (g cl i).1
        · exact hz
        · exact absurd (fun y hy => by simp at hy; subst hy; exact hz) e
    · have hge : i = ss.length := by have : ¬ (i : Int) < (ss.length : Int) := hlt; omega
      refine ⟨_, rfl, ⟨fun h => by omega, fun ⟨k, hk, hz⟩ => absurd hz (hno k (by omega))⟩, f1⟩
  refine inner.use ?_
  rintro v w1 ⟨j, rfl, hj, f1⟩
  refine ⟨_, rfl, ?_, f1⟩
  congr 1
  rw [Bool.eq_iff_iff, decide_eq_true_iff, hj, List.any_eq_true]
  constructor
  · rintro ⟨i, hi, hz⟩
    exact ⟨_, g_mem hi, by simpa using hz⟩
  · rintro ⟨c, hc, hz⟩
    obtain ⟨i, hi, rfl⟩ := List.mem_iff_getElem.1 hc
    exact ⟨i, hi, by unfold Go.Eng.g; rw [List.getElem?_eq_getElem hi]; simpa using hz⟩
theorem May_ok (h : Cls w ok A xs) (c : Nat) (who z : Int) : Ret Try.prog 20 [.slice A xs.length c, .int .i64 who, .int .i64 z] w fun v w' => v = .bool (mayB (cms xs) who z) ∧ Fr none1 w w' := by
  have hlx := h.2.2
  apply S20_calls
  refine (sides_ok h c).use ?_
  rintro v w1 ⟨hv, f1⟩
  rcases hv.symm with ⟨hr, rfl⟩ | ⟨hr, A1, c1, ss, rfl, o1, hs⟩
  · refine ⟨_, _, _, _, rfl, cT rfl (cT rfl ⟨?_, f1⟩)⟩
    unfold mayB; rw [hr]; rfl
  refine ⟨_, _, _, _, rfl, cF rfl ?_⟩
  have hsl := hs.1
  rw [cms_len] at hsl
  have bad : ∀ {u}, Fr none1 w u → ¬ (0 ≤ who ∧ who < ((cms xs).length : Int) ∧ 0 ≤ z ∧ z < 26) → Value.bool false = .bool (mayB (cms xs) who z) ∧ Fr none1 w u := by
    intro u fu hb
    unfold mayB
    rw [decide_eq_false hb, Bool.false_and, Bool.and_false]
    exact ⟨rfl, fu⟩
  have hcl := cms_len xs
  refine cD (fun e => cT rfl (bad f1 (by omega))) (fun e1 => cD (fun e => cT rfl (bad f1 (by omega))) (fun e2 => cD (fun e => cT rfl (bad f1 (by omega))) (fun e3 => cD (fun e => bad f1 (by omega)) (fun e4 => ?_))))
  have hg : 0 ≤ who ∧ who < ((cms xs).length : Int) ∧ 0 ≤ z ∧ z < 26 := by omega
  obtain ⟨b, rfl⟩ : ∃ b : Nat, who = (b : Int) := ⟨who.toNat, by omega⟩
  have hbl : b < ss.length := by omega
  have hm := Mask.one (z := z) (by omega) (by omega)
  refine ⟨by omega, ?_⟩
  have b2 := Blk.new w1 45 [.int .u32 0]
  have f2 : Fr none1 w1 (w1.alloc (.cells ⟨[.int .u32 0]⟩ 45)) := Fr.alloc _ _
  have b3 := b2.set 0 (.int .u32 ((2 ^ z.toNat : Nat) : Int))
  have f3 : Fr none1 w1 ((w1.alloc (.cells ⟨[.int .u32 0]⟩ 45)).setCell ⟨w1.heap.size, 0, none⟩ (.int .u32 ((2 ^ z.toNat : Nat) : Int))) := f2.set1 (Nat.le_refl _) _
  refine ⟨b2.has 0 (by simp), b2.free 0, ?_⟩
  rw [shl32 (by omega) (by omega)]
  generalize (w1.alloc (.cells ⟨[.int .u32 0]⟩ 45)).setCell ⟨w1.heap.size, 0, none⟩ (.int .u32 ((2 ^ z.toNat : Nat) : Int)) = w3 at b3 f3 ⊢
  clear b2 f2
  generalize w1.heap.size = p at b3 ⊢
  have o3 := o1.fr f3 fun _ _ _ h => h
  have f03 := f1.trans' f3
  have hok := (rightB_iff.1 hr).2.1
  refine (ixf_ok o3.rd hs hok (by omega) b3 hm c1).use ?_
  rintro v w4 ⟨rfl, f4⟩
  refine ⟨_, rfl, ?_⟩
  cases hany : (cms xs).any fun c => c.1.contains z with
  | true =>
    refine cT rfl ⟨?_, f03.trans' f4⟩
    unfold mayB; rw [hany]; simp
  | false =>
    refine cF rfl ?_
    have fd : Fr none1 w4 w4.drew := Fr.drew w4
    have f5 := f4.trans' fd
    have o5 := o3.fr f5 fun _ _ _ h => h
    have b5 := b3.fr f5 fun h => h
    have f05 := f03.trans' f5
    unfold S20_k2
    generalize w4.drew = w5 at o5 b5 f5 f05 ⊢
    have hx : ss[b]? = some ss[b] := List.getElem?_eq_getElem hbl
    generalize ss[b] = s at hx
    obtain ⟨g1, rfl, hg1, _⟩ := o5.form (by omega)
    obtain ⟨t, ht, _, c0, _⟩ := side_at o5.rd hx
    cases ht
    have hmb := hs.2 b s hx
    have hst := o5.store (j := b * 2) (by rw [rws_length scell_len]; omega)
    have e0 : ((⟨g1, 0, none⟩ : Addr).add (Int.toNat (b : Int) * 2)) = ⟨g1, b * 2, none⟩ := by rw [Int.toNat_natCast, add_g]
    rw [e0] at c0
    refine ⟨⟨g1, 0, none⟩, rfl, by omega, by omega, _, by rw [e0]; exact c0, _, (b5.cell 0).trans rfl, ⟨g1, 0, none⟩, rfl, by omega, by omega, by rw [e0]; exact hst.1, by rw [e0]; exact hst.2, ?_⟩
    rw [or32 hmb.1.lt hm.lt, e0]
    have os := o5.set (b * 2) (.int .u32 ((s.1 ||| 2 ^ z.toNat : Nat) : Int))
    rw [show b * 2 = b * 2 + 0 from rfl, ← rws_upd scell_len (a := s) (a' := (s.1 ||| 2 ^ z.toNat, s.2)) (j := 0) (by decide) rfl _ _ hx] at os
    have fs : Fr (fun k => k = g1) w5 (w5.setCell ⟨g1, b * 2 + 0, none⟩ (.int .u32 ((s.1 ||| 2 ^ z.toNat : Nat) : Int))) := Fr.setCell (F := fun k => k = g1) w5 rfl _
    have f06 := f05.trans fs fun k hk e => by
      have e : k = g1 := e
      have hg1 : w.heap.size ≤ g1 := hg1
      omega
    rw [show b * 2 = b * 2 + 0 from rfl]
    generalize w5.setCell ⟨g1, b * 2 + 0, none⟩ (.int .u32 ((s.1 ||| 2 ^ z.toNat : Nat) : Int)) = w6 at os f06 ⊢
    have hset : SidesOf (ss.set b (s.1 ||| 2 ^ z.toNat, s.2)) (give (cms xs) b z) := by
      refine ⟨by unfold give; simp [cms_len]; omega, fun i s' hi => ?_⟩
      rw [List.getElem?_set] at hi
      unfold give
      rw [g_set _ (by omega)]
      by_cases e : b = i
      · subst e
        rw [if_pos rfl, if_pos hbl] at hi
        cases hi
        rw [if_pos rfl]
        refine ⟨(hmb.1.or hm).congr fun y => ?_, hmb.2⟩
        simp only [List.mem_append, List.mem_cons, List.not_mem_nil, or_false]
        exact Or.comm
      · rw [if_neg e] at hi
        rw [if_neg fun h => e h.symm]
        exact hs.2 i s' hi
    have ho := order_ok (c := c1) os.rd hset (okc_give hok (by omega) ⟨by omega, by omega⟩) (by unfold give; simp [cms_len]; omega)
    rw [List.length_set] at ho
    refine ho.use ?_
    rintro v w7 ⟨hv, f7⟩
    have hv' : OrdV (ord (give (cms xs) b z)) w6.heap.size v w7 := hv
    obtain ⟨A7, c7, rfl, _⟩ := hv'.out
    refine ⟨_, _, _, _, rfl, ?_, f06.trans' f7⟩
    unfold mayB
    rw [hr, hany, decide_eq_true hg, Int.toNat_natCast]
    simp
end
end Go.Proofs
