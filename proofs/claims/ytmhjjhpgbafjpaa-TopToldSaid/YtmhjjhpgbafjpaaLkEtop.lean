/- Who tells, and who hears. -/
import Derived.Test.YtmhjjhpgbafjpaaLkDtop
set_option linter.unusedVariables false
namespace Go.Eng
open Go
theorem Blk.neT {w : World} {a b : Nat} {t u : TypeId} {xs ys : List Value} (h : Blk w a t xs) (h' : Blk w b u ys) (hne : t ≠ u) : a ≠ b := by
  rintro rfl
  have := h.symm.trans h'
  cases this
  exact hne rfl
theorem Blk.eqV {w : World} {a : Nat} {t u : TypeId} {xs ys : List Value} (h : Blk w a t xs) (h' : Blk w a u ys) : xs = ys := by
  have := h.symm.trans h'
  cases this
  rfl
/-- A struct of three cells, newly made and written. -/
theorem new3 (w : World) (t : TypeId) (a b c x y z : Value) : ∀ W, W = (((w.alloc (.cells ⟨[a, b, c]⟩ t)).setCell ⟨w.heap.size, 0, none⟩ x).setCell ⟨w.heap.size, 1, none⟩ y).setCell ⟨w.heap.size, 2, none⟩ z →
    ((∃ u, (w.alloc (.cells ⟨[a, b, c]⟩ t)).cell? ⟨w.heap.size, 0, none⟩ = some u) ∧ (w.alloc (.cells ⟨[a, b, c]⟩ t)).frozen? ⟨w.heap.size, 0, none⟩ = false ∧
      (∃ u, ((w.alloc (.cells ⟨[a, b, c]⟩ t)).setCell ⟨w.heap.size, 0, none⟩ x).cell? ⟨w.heap.size, 1, none⟩ = some u) ∧ ((w.alloc (.cells ⟨[a, b, c]⟩ t)).setCell ⟨w.heap.size, 0, none⟩ x).frozen? ⟨w.heap.size, 1, none⟩ = false ∧
      (∃ u, (((w.alloc (.cells ⟨[a, b, c]⟩ t)).setCell ⟨w.heap.size, 0, none⟩ x).setCell ⟨w.heap.size, 1, none⟩ y).cell? ⟨w.heap.size, 2, none⟩ = some u) ∧ (((w.alloc (.cells ⟨[a, b, c]⟩ t)).setCell ⟨w.heap.size, 0, none⟩ x).setCell ⟨w.heap.size, 1, none⟩ y).frozen? ⟨w.heap.size, 2, none⟩ = false) ∧
    Blk W w.heap.size t [x, y, z] ∧ Fr none1 w W := by
  rintro W rfl
  have b0 := Blk.new w t [a, b, c]
  obtain ⟨⟨u1, z1⟩, b1, f1⟩ := b0.wr1 0 (by simp) x
  obtain ⟨⟨u2, z2⟩, b2, f2⟩ := b1.wr1 1 (by simp) y
  obtain ⟨⟨u3, z3⟩, b3, f3⟩ := b2.wr1 2 (by simp) z
  have e : ∀ k, k = w.heap.size → w.heap.size ≤ k := fun k e => Nat.le_of_eq e.symm
  exact ⟨⟨u1, z1, u2, z2, u3, z3⟩, b3, ((Fr.alloc _ _).bel0.trans' ((f1.bel e).trans' ((f2.bel e).trans' (f3.bel e)))).top⟩
end Go.Eng
namespace Go.Proofs
open Go Go.Eng
def Snd (w : World) (ok : Nat → Prop) (b : Nat) (told : Nat) (tells : Bool) (data : Bs) : Prop :=
  ok b ∧ ∃ A c, Blk w b 107 [.int .u64 (told : Int), .bool tells, .slice A data.length c] ∧ Own w 5 1 ok A data.length c (bvs data)
def Rcv (w : World) (b : Nat) (heard : Nat) : Prop := Blk w b 109 [.int .u64 (heard : Int)]
section
variable {w w' : World} {ok : Nat → Prop} {b told : Nat} {tells : Bool} {data : Bs} {heard : Nat}
theorem Snd.fr {F : Nat → Prop} (h : Snd w ok b told tells data) (hf : Fr F w w') (hd : ∀ k, k < w.heap.size → ok k → ¬ F k) : Snd w' ok b told tells data := by
  obtain ⟨h0, A, c, h1, h2⟩ := h
  exact ⟨h0, A, c, h1.fr hf (hd b h1.lt h0), h2.fr hf hd⟩
theorem Snd.mono {ok' : Nat → Prop} (h : Snd w ok b told tells data) (hk : ∀ k, k < w.heap.size → ok k → ok' k) : Snd w ok' b told tells data := by
  obtain ⟨h0, A, c, h1, h2⟩ := h
  exact ⟨hk b h1.lt h0, A, c, h1, h2.mono hk⟩
theorem Snd.blk (h : Snd w ok b told tells data) : ∃ A c, Blk w b 107 [.int .u64 (told : Int), .bool tells, .slice A data.length c] := by
  obtain ⟨h0, A, c, h1, h2⟩ := h
  exact ⟨A, c, h1⟩
theorem Snd.lt (h : Snd w ok b told tells data) : b < w.heap.size := by obtain ⟨A, c, h1⟩ := h.blk; exact h1.lt
/-- One block of another type is written. -/
theorem Snd.fr1 {x : Nat} {t : TypeId} {vs : List Value} (h : Snd w ok b told tells data) (hx : Blk w x t vs) (h1 : t ≠ 107) (h2 : t ≠ 5) (hf : Fr (fun k => k = x) w w') : Snd w' ok b told tells data := by
  obtain ⟨h0, A, c, k1, k2⟩ := h
  exact ⟨h0, A, c, k1.fr hf (Blk.neT k1 hx (Ne.symm h1)), k2.fr1 hf fun a ha => k2.ne_blk hx (Ne.symm h2) a ha⟩
theorem snew_ok (told : Nat) (w : World) : Ret Try.prog 15 [.int .u64 (told : Int)] w fun v w' => v = .pointer (some ⟨w.heap.size, 0, none⟩) ∧ Snd w' (from1 w.heap.size) w.heap.size told false [] ∧ Fr none1 w w' := by
  apply S15_calls
  exact ⟨rfl, ⟨Nat.le_refl _, none, 0, Blk.new w 107 _, Own.nil _ _ _ _⟩, Fr.alloc _ _⟩
theorem rvnew_ok (heard : Nat) (w : World) : Ret Try.prog 16 [.int .u64 (heard : Int)] w fun v w' => v = .pointer (some ⟨w.heap.size, 0, none⟩) ∧ Rcv w' w.heap.size heard ∧ Fr none1 w w' := by
  apply S16_calls
  exact ⟨rfl, Blk.new w 109 _, Fr.alloc _ _⟩
theorem heard_ok (h : Rcv w b heard) : Ret Try.prog 27 [.pointer (some ⟨b, 0, none⟩)] w fun v w' => v = .int .u64 (heard : Int) ∧ w' = w := by
  apply S27_calls
  exact cF rfl ⟨_, rfl, _, h.cell 0, rfl, rfl⟩
theorem u64_succ {n : Nat} (h : n ≤ 1000000) : IntKind.u64.wrap ((n : Int) + 1) = ((n + 1 : Nat) : Int) := by
  simp [IntKind.wrap, IntKind.bits, IntKind.signed]; omega
theorem spacket_ok (h : Snd w ok b told tells data) (ht : told < 1000000) (hd : data.length ≤ 200) : Ret Try.prog 28 [.pointer (some ⟨b, 0, none⟩)] w fun v w' =>
    (if tells then ∃ A c, v = .tuple ⟨[.slice A (layB ⟨false, told + 1, data⟩).length c, .bool true]⟩ ∧ Own w' 5 1 (from1 w.heap.size) A (layB ⟨false, told + 1, data⟩).length c (bvs (layB ⟨false, told + 1, data⟩))
      else v = .tuple ⟨[.slice none 0 0, .bool false]⟩) ∧ Fr none1 w w' := by
  apply S28_calls
  have hh := h
  obtain ⟨h0, A, c, k1, k2⟩ := h
  refine cF rfl ⟨_, rfl, _, by rw [add_g]; exact k1.cell 1, ?_⟩
  cases tells with
  | false => exact cT rfl ⟨rfl, Fr.refl _ _⟩
  | true =>
    have fd : Fr none1 w w.drew := Fr.drew w
    have d1 := k1.fr fd fun h => h
    have d2 := k2.fr fd fun _ _ _ h => h
    refine cF rfl ⟨_, rfl, _, rfl, _, d1.cell 0, _, _, _, by rw [add_g]; exact d1.cell 2, ?_⟩
    rw [u64_succ (by omega)]
    refine (llay_ok (p := ⟨false, told + 1, data⟩) d2.rd ⟨by dsimp only; omega, hd, by simp⟩).use ?_
    rintro v w1 ⟨A', c', rfl, o, f⟩
    have := fd.size
    exact ⟨_, _, _, _, rfl, ⟨A', c', rfl, o.mono fun k _ hk => Nat.le_trans this hk⟩, fd.trans' f⟩
theorem spacket0 (h : Snd w ok b told false data) : Ret Try.prog 28 [.pointer (some ⟨b, 0, none⟩)] w fun v w' => v = .tuple ⟨[.slice none 0 0, .bool false]⟩ ∧ w' = w := by
  apply S28_calls
  obtain ⟨h0, A, c, k1, k2⟩ := h
  exact cF rfl ⟨_, rfl, _, by rw [add_g]; exact k1.cell 1, cT rfl ⟨rfl, rfl⟩⟩
theorem stell_ok (h : Snd w ok b told false data) (ht : told < 1000000) {A : Option Addr} {c : Nat} {ok2 : Nat → Prop} {xs : Bs} (hr : Rd w ok2 A (bvs xs)) (hx : xs.length ≤ 200) : Ret Try.prog 30 [.pointer (some ⟨b, 0, none⟩), .slice A xs.length c] w fun v w' =>
    v = .int .i64 0 ∧ Snd w' (fun k => ok k ∨ w.heap.size ≤ k) b told true xs ∧ Fr (fun k => k = b) w w' := by
  apply S30_calls
  have hh := h
  obtain ⟨h0, A0, c0, k1, k2⟩ := h
  refine cF rfl ⟨_, rfl, _, by rw [add_g]; exact k1.cell 1, cF rfl (cF (decide_eq_false (by omega)) ⟨_, rfl, _, k1.cell 0, ?_⟩)⟩
  rw [decide_eq_false (by omega)]
  obtain ⟨A', c', w', r1, o1, f1⟩ := dupl (ty := 36) (c2 := c) Eby (m := xs.length) (by rw [bvs_length]; omega) hr (bvs_one _) (by omega) (by simp only [maxLen]; omega)
  have j1 := k1.fr f1 fun h => h
  obtain ⟨⟨u1, z1⟩, j2, f2⟩ := j1.wr1 1 (by simp) (.bool true)
  obtain ⟨⟨u2, z2⟩, j3, f3⟩ := j2.wr1 2 (by simp) (.slice A' xs.length c')
  refine cF rfl ⟨_, _, _, w', r1, _, rfl, by rw [add_g]; exact u1, by rw [add_g]; exact z1, _, rfl, by rw [add_g, add_g]; exact u2, by rw [add_g, add_g]; exact z2, rfl, ⟨.inl h0, A', c', j3, ?_⟩, (f1.mono fun _ _ h => h.elim).trans' (f2.trans' f3)⟩
  refine ((o1.fr1 (f2.trans' f3) fun a ha => o1.ne_blk j1 (by decide) a ha)).mono fun k _ hk => .inr hk
theorem shear_ok (h : Snd w ok b told tells data) (ht : told < 1000000) {A : Option Addr} {c : Nat} {ok2 : Nat → Prop} {p : Pk} (hr : Rd w ok2 A (bvs (layB p))) (hc : (layB p).length ≤ c) (hp : Pok p) : Ret Try.prog 24 [.pointer (some ⟨b, 0, none⟩), .slice A (layB p).length c] w fun v w' =>
    (if tells = true ∧ p.hd = true ∧ p.n = told + 1 then v = .bool true ∧ Snd w' ok b (told + 1) false [] else v = .bool false ∧ Snd w' ok b told tells data) ∧ Fr (fun k => k = b) w w' := by
  apply S24_calls
  refine (ltake_ok hr hc hp).use ?_
  rintro v w1 ⟨A', c', rfl, o1, f1⟩
  obtain ⟨⟨u1, z1, u2, z2, u3, z3⟩, bp, f2⟩ := new3 w1 58 (.bool false) (.int .u64 0) (.slice none 0 0) (.bool p.hd) (.int .u64 (p.n : Int)) (.slice A' p.data.length c') _ rfl
  refine ⟨_, _, _, _, _, _, rfl, u1, z1, u2, z2, u3, z3, cF rfl ?_⟩
  generalize hW : World.drew _ = w3
  have f3 : Fr none1 _ w3 := hW ▸ Fr.drew _
  have f13 := f1.trans' (f2.trans' f3)
  have bp3 := bp.fr f3 fun h => h
  have h3 := h.fr f13 fun _ _ _ h => h
  obtain ⟨h0, A3, c3, k1, k2⟩ := h3
  have no : ¬ (tells = true ∧ p.hd = true ∧ p.n = told + 1) → (if tells = true ∧ p.hd = true ∧ p.n = told + 1 then Value.bool false = .bool true ∧ Snd w3 ok b (told + 1) false [] else Value.bool false = .bool false ∧ Snd w3 ok b told tells data) ∧ Fr (fun k => k = b) w w3 := fun hn => by
    rw [if_neg hn]
    exact ⟨⟨rfl, h0, A3, c3, k1, k2⟩, f13.mono fun _ _ h => h.elim⟩
  refine ⟨_, rfl, _, by rw [add_g]; exact k1.cell 1, ?_⟩
  cases tells with
  | false => exact cT rfl (cT rfl (no (by simp)))
  | true =>
    refine cF rfl (cF (by simp) ⟨_, bp3.cell 0, ?_⟩)
    cases hh : p.hd with
    | false => exact cT rfl (cT rfl (by have := no (by simp [hh]); rwa [hh] at this))
    | true =>
      refine cF rfl ⟨_, rfl, _, k1.cell 0, _, bp3.cell 1, ?_⟩
      rw [u64_succ (by omega)]
      by_cases hn : p.n = told + 1
      · rw [decide_eq_true (by omega : ((p.n : Nat) : Int) = ((told + 1 : Nat) : Int))]
        obtain ⟨⟨u4, z4⟩, j4, f4⟩ := k1.wr1 1 (by simp) (.bool false)
        obtain ⟨⟨u5, z5⟩, j5, f5⟩ := j4.wr1 2 (by simp) (.slice none 0 0)
        obtain ⟨⟨u6, z6⟩, j6, f6⟩ := j5.wr1 0 (by simp) (.int .u64 ((told + 1 : Nat) : Int))
        refine cF rfl ⟨_, rfl, by rw [add_g]; exact u4, by rw [add_g]; exact z4, _, rfl, by rw [add_g, add_g]; exact u5, by rw [add_g, add_g]; exact z5, _, rfl, _, by rw [add_g, add_g]; exact j5.cell 0, _, rfl, by rw [add_g, add_g]; exact u6, by rw [add_g, add_g]; exact z6, ?_⟩
        dsimp only
        rw [if_pos ⟨rfl, rfl, hn⟩, u64_succ (by omega)]
        exact ⟨⟨rfl, h0, none, 0, by rw [add_g, add_g]; exact j6, Own.nil _ _ _ _⟩, by rw [add_g, add_g]; exact (f13.mono fun _ _ h => h.elim).trans' (f4.trans' (f5.trans' f6))⟩
      · rw [decide_eq_false (by omega : ¬ ((p.n : Nat) : Int) = ((told + 1 : Nat) : Int))]
        exact cT rfl (by have := no (fun h => hn h.2.2); rwa [hh] at this)
def hFresh (p : Pk) (heard : Nat) : Bool := !p.hd && decide (p.n = heard + 1)
def hBack (p : Pk) (heard : Nat) : Bs := if p.hd = true ∨ p.n = 0 ∨ heard + 1 < p.n then [] else layB ⟨true, p.n, []⟩
def hData (p : Pk) (heard : Nat) : Bs := if hFresh p heard then p.data else []
theorem rhear_ok (h : Rcv w b heard) (ht : heard < 1000000) {A : Option Addr} {c : Nat} {ok2 : Nat → Prop} {p : Pk} (hr : Rd w ok2 A (bvs (layB p))) (hc : (layB p).length ≤ c) (hp : Pok p) : Ret Try.prog 25 [.pointer (some ⟨b, 0, none⟩), .slice A (layB p).length c] w fun v w' =>
    (∃ A1 c1 A2 c2, v = .tuple ⟨[.slice A1 (hData p heard).length c1, .bool (hFresh p heard), .slice A2 (hBack p heard).length c2]⟩ ∧ Own w' 5 1 (from1 w.heap.size) A1 (hData p heard).length c1 (bvs (hData p heard)) ∧ Own w' 5 1 (from1 w.heap.size) A2 (hBack p heard).length c2 (bvs (hBack p heard))) ∧ Rcv w' b (if hFresh p heard then heard + 1 else heard) ∧ Fr (fun k => k = b) w w' := by
  have hp' := hp
  obtain ⟨hp1, hp2, hp3⟩ := hp'
  apply S25_calls
  refine (ltake_ok hr hc hp).use ?_
  rintro v w1 ⟨A', c', rfl, o1, f1⟩
  obtain ⟨⟨u1, z1, u2, z2, u3, z3⟩, bp, f2⟩ := new3 w1 58 (.bool false) (.int .u64 0) (.slice none 0 0) (.bool p.hd) (.int .u64 (p.n : Int)) (.slice A' p.data.length c') _ rfl
  refine ⟨_, _, _, _, _, _, rfl, u1, z1, u2, z2, u3, z3, cF rfl (cF (by simp) ?_)⟩
  generalize hW : World.drew _ = w3
  have f3 : Fr none1 _ w3 := hW ▸ Fr.drew _
  have f13 := f1.trans' (f2.trans' f3)
  have hs1 := f1.size
  have bp3 := bp.fr f3 fun h => h
  have o3 := o1.fr (f2.trans' f3) fun _ _ _ h => h
  have k1 : Blk w3 b 109 [.int .u64 (heard : Int)] := Blk.fr h f13 fun h => h
  generalize hpb : w1.heap.size = pb at *
  have no : (p.hd = true ∨ p.n = 0 ∨ heard + 1 < p.n) → (∃ A1 c1 A2 c2, Value.tuple ⟨[.slice none 0 0, .bool false, .slice none 0 0]⟩ = .tuple ⟨[.slice A1 (hData p heard).length c1, .bool (hFresh p heard), .slice A2 (hBack p heard).length c2]⟩ ∧ Own w3 5 1 (from1 w.heap.size) A1 (hData p heard).length c1 (bvs (hData p heard)) ∧ Own w3 5 1 (from1 w.heap.size) A2 (hBack p heard).length c2 (bvs (hBack p heard))) ∧ Rcv w3 b (if hFresh p heard then heard + 1 else heard) ∧ Fr (fun k => k = b) w w3 := fun hn => by
    have e1 : hFresh p heard = false := by
      unfold hFresh
      rcases hn with h | h | h
      · rw [h]; rfl
      · rw [decide_eq_false (by omega)]; simp
      · rw [decide_eq_false (by omega)]; simp
    have e2 : hBack p heard = [] := if_pos hn
    have e3 : hData p heard = [] := by unfold hData; rw [e1]; rfl
    rw [e1, e2, e3]
    exact ⟨⟨none, 0, none, 0, rfl, Own.nil _ _ _ _, Own.nil _ _ _ _⟩, k1, f13.mono fun _ _ h => h.elim⟩
  refine ⟨_, bp3.cell 0, ?_⟩
  cases hh : p.hd with
  | true => exact cT rfl (cT rfl (no (.inl hh)))
  | false =>
    refine cF rfl ⟨_, bp3.cell 1, cD (fun h0 => cT rfl (no (.inr (.inl (by omega))))) fun h0 => ⟨_, rfl, _, k1.cell 0, _, bp3.cell 1, ?_⟩⟩
    rw [u64_succ (by omega)]
    by_cases hn : heard + 1 < p.n
    · rw [decide_eq_true (by omega)]
      exact cT rfl (no (.inr (.inr hn)))
    · rw [decide_eq_false (by omega)]
      refine cF rfl ⟨_, by rw [add_g]; exact bp3.cell 1, ?_⟩
      refine (llay_ok (p := ⟨true, p.n, []⟩) (A := none) (c := 0) (ok := none1) (.inl rfl) ⟨hp1, by simp, fun _ => rfl⟩).use ?_
      rintro v w4 ⟨A4, c4, rfl, o4, f4⟩
      have hs3 := f13.size
      generalize hW' : World.drew w4 = w5
      have f5 : Fr none1 w4 w5 := hW' ▸ Fr.drew _
      have f45 := f4.trans' f5
      have k5 := k1.fr f45 fun h => h
      have bp5 := bp3.fr f45 fun h => h
      have o5 := o3.fr f45 fun _ _ _ h => h
      have q5 := (o4.fr f5 fun _ _ _ h => h).mono (ok' := from1 w.heap.size) fun k _ hk => Nat.le_trans hs3 hk
      have eb : hBack p heard = layB ⟨true, p.n, []⟩ := if_neg (by rw [hh]; simp; omega)
      refine ⟨_, _, _, _, rfl, _, rfl, _, k5.cell 0, _, by rw [add_g]; exact bp5.cell 1, ?_⟩
      rw [u64_succ (by omega), eb]
      by_cases hq : p.n = heard + 1
      · have e1 : hFresh p heard = true := by unfold hFresh; rw [hh, decide_eq_true hq]; rfl
        have e3 : hData p heard = p.data := by unfold hData; rw [e1]; rfl
        rw [e1, e3, decide_eq_true (by omega : ((p.n : Nat) : Int) = ((heard + 1 : Nat) : Int))]
        obtain ⟨⟨u6, z6⟩, j6, f6⟩ := k5.wr1 0 (by simp) (.int .u64 ((heard + 1 : Nat) : Int))
        have hne : pb ≠ b := Blk.neT bp5 k5 (by decide)
        have bp6 := bp5.fr f6 hne
        refine cF rfl ⟨_, rfl, _, k5.cell 0, _, rfl, u6, z6, ?_⟩
        rw [u64_succ (by omega), add_g]
        refine ⟨_, _, _, bp6.cell 2, ⟨A', c', A4, c4, rfl, ?_, ?_⟩, j6, (f13.trans' f45 |>.mono fun _ _ h => h.elim).trans' f6⟩
        · exact o5.fr1 f6 fun a ha => o5.ne_blk k5 (by decide) a ha
        · exact q5.fr1 f6 fun a ha => q5.ne_blk k5 (by decide) a ha
      · have e1 : hFresh p heard = false := by unfold hFresh; rw [decide_eq_false hq]; simp
        have e3 : hData p heard = [] := by unfold hData; rw [e1]; rfl
        rw [e1, e3, decide_eq_false (by omega : ¬ ((p.n : Nat) : Int) = ((heard + 1 : Nat) : Int))]
        exact cT rfl ⟨⟨none, 0, A4, c4, rfl, Own.nil _ _ _ _, q5⟩, k5, f13.trans' f45 |>.mono fun _ _ h => h.elim⟩
end
end Go.Proofs
