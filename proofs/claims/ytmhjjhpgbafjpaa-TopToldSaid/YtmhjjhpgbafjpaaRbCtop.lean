/- What a robot is told, and what it tells. -/
import Derived.Test.YtmhjjhpgbafjpaaLkEtop
import Derived.Test.YtmhjjhpgbafjpaaRcItop
set_option linter.unusedVariables false
namespace Go.Proofs
open Go Go.Eng
def ActAt (w : World) (ok : Nat → Prop) (act : Option Ac) (ap : Option Addr) : Prop :=
  match act with
  | none => ap = none
  | some a => ∃ x, ap = some ⟨x, 0, none⟩ ∧ ok x ∧ AcB w x a
def RobAt (w : World) (ok : Nat → Prop) (b : Nat) (act : Option Ac) (done hr tr : Nat) (rt : Bool) : Prop :=
  ok b ∧ ∃ (d c t f g : Int) (ap : Option Addr) (hp sp : Nat), Blk w b 105 [.int .i64 d, .int .i64 c, .int .i64 t, .int .i64 f, .int .i64 g, .pointer ap, .int .u64 (done : Int), .pointer (some ⟨hp, 0, none⟩), .pointer (some ⟨sp, 0, none⟩)] ∧ ok hp ∧ Rcv w hp hr ∧ Snd w ok sp tr rt [] ∧ ActAt w ok act ap
section
variable {w w' : World} {ok : Nat → Prop} {b done hr tr : Nat} {rt : Bool} {act : Option Ac} {ap : Option Addr}
theorem ActAt.fr {F : Nat → Prop} (h : ActAt w ok act ap) (hf : Fr F w w') (hd : ∀ k, k < w.heap.size → ok k → ¬ F k) : ActAt w' ok act ap := by
  cases act with
  | none => exact h
  | some a => obtain ⟨x, h1, h2, h3⟩ := h; exact ⟨x, h1, h2, Blk.fr h3 hf (hd x (Blk.lt h3) h2)⟩
theorem ActAt.mono {ok' : Nat → Prop} (h : ActAt w ok act ap) (hk : ∀ k, k < w.heap.size → ok k → ok' k) : ActAt w ok' act ap := by
  cases act with
  | none => exact h
  | some a => obtain ⟨x, h1, h2, h3⟩ := h; exact ⟨x, h1, hk x (Blk.lt h3) h2, h3⟩
theorem ActAt.fr1 {x : Nat} {t : TypeId} {vs : List Value} (h : ActAt w ok act ap) (hx : Blk w x t vs) (h1 : t ≠ 67) (hf : Fr (fun k => k = x) w w') : ActAt w' ok act ap := by
  cases act with
  | none => exact h
  | some a => obtain ⟨y, k1, k2, k3⟩ := h; exact ⟨y, k1, k2, Blk.fr k3 hf (Blk.neT k3 hx (Ne.symm h1))⟩
theorem RobAt.fr {F : Nat → Prop} (h : RobAt w ok b act done hr tr rt) (hf : Fr F w w') (hd : ∀ k, k < w.heap.size → ok k → ¬ F k) : RobAt w' ok b act done hr tr rt := by
  obtain ⟨h0, d, c, t, f, g, ap, hp, sp, h1, h2, h3, h4, h5⟩ := h
  exact ⟨h0, d, c, t, f, g, ap, hp, sp, h1.fr hf (hd b h1.lt h0), h2, Blk.fr h3 hf (hd hp (Blk.lt h3) h2), h4.fr hf hd, h5.fr hf hd⟩
theorem RobAt.mono {ok' : Nat → Prop} (h : RobAt w ok b act done hr tr rt) (hk : ∀ k, k < w.heap.size → ok k → ok' k) : RobAt w ok' b act done hr tr rt := by
  obtain ⟨h0, d, c, t, f, g, ap, hp, sp, h1, h2, h3, h4, h5⟩ := h
  exact ⟨hk b h1.lt h0, d, c, t, f, g, ap, hp, sp, h1, hk hp (Blk.lt h3) h2, h3, h4.mono hk, h5.mono hk⟩
theorem rbnew_ok (w : World) : Ret Try.prog 14 [.int .i64 3, .int .i64 1000] w fun v w' => ∃ b, v = .tuple ⟨[.pointer (some ⟨b, 0, none⟩), .int .i64 0]⟩ ∧ RobAt w' (from1 w.heap.size) b none 0 0 0 false ∧ Fr none1 w w' := by
  apply S14_calls
  refine cF (by decide) (cF (by decide) (cF (by decide) ?_))
  refine (rvnew_ok 0 w).use ?_
  rintro v w1 ⟨rfl, h1, f1⟩
  refine ⟨_, rfl, ?_⟩
  refine (snew_ok 0 w1).use ?_
  rintro v w2 ⟨rfl, h2, f2⟩
  have hs1 := f1.size
  have hs2 := f2.size
  have f3 : Fr none1 w2 (w2.alloc (.cells ⟨[.int .i64 3, .int .i64 3, .int .i64 (-1), .int .i64 1000, .int .i64 1000, .pointer none, .int .u64 0, .pointer (some ⟨w.heap.size, 0, none⟩), .pointer (some ⟨w1.heap.size, 0, none⟩)]⟩ 105)) := Fr.alloc _ _
  refine ⟨_, rfl, _, rfl, ⟨?_, 3, 3, -1, 1000, 1000, none, w.heap.size, w1.heap.size, Blk.new w2 105 _, Nat.le_refl _, (Blk.fr h1 f2 fun h => h).fr f3 fun h => h, (h2.fr f3 fun _ _ _ h => h).mono fun k _ hk => Nat.le_trans hs1 hk, rfl⟩, f1.trans' (f2.trans' f3)⟩
  show w.heap.size ≤ w2.heap.size
  omega
theorem rbdone_ok (h : RobAt w ok b act done hr tr rt) : Ret Try.prog 37 [.pointer (some ⟨b, 0, none⟩)] w fun v w' => v = .int .u64 (done : Int) ∧ w' = w := by
  obtain ⟨h0, d, c, t, f, g, ap, hp, sp, h1, h2, h3, h4, h5⟩ := h
  apply S37_calls
  exact cF rfl ⟨_, rfl, _, by rw [add_g]; exact h1.cell 6, rfl, rfl⟩
theorem rbpacket_ok (h : RobAt w ok b act done hr tr rt) (ht : tr < 1000000) : Ret Try.prog 36 [.pointer (some ⟨b, 0, none⟩)] w fun v w' =>
    (if rt then ∃ A c, v = .tuple ⟨[.slice A (layB ⟨false, tr + 1, []⟩).length c, .bool true]⟩ ∧ Own w' 5 1 (from1 w.heap.size) A (layB ⟨false, tr + 1, []⟩).length c (bvs (layB ⟨false, tr + 1, []⟩))
      else v = .tuple ⟨[.slice none 0 0, .bool false]⟩) ∧ Fr none1 w w' := by
  obtain ⟨h0, d, c, t, f, g, ap, hp, sp, h1, h2, h3, h4, h5⟩ := h
  apply S36_calls
  refine cF rfl ⟨_, rfl, _, by rw [add_g]; exact h1.cell 8, ?_⟩
  refine (spacket_ok h4 ht (by simp)).use ?_
  rintro v w1 ⟨hv, f1⟩
  cases rt with
  | false => have hv : v = _ := hv; subst hv; exact ⟨_, _, _, _, rfl, rfl, f1⟩
  | true => obtain ⟨A, c, rfl, o⟩ := hv; exact ⟨_, _, _, _, rfl, ⟨A, c, rfl, o⟩, f1⟩
theorem rbnext_ok (h : RobAt w ok b act done hr tr rt) : Ret Try.prog 34 [.pointer (some ⟨b, 0, none⟩)] w fun v w' => v = .tuple ⟨[aval (act.getD ac0), .bool act.isSome]⟩ ∧ Fr none1 w w' := by
  apply S34_calls
  have f0 : Fr none1 w (w.alloc (.cells ⟨[.int .u8 0, .int .i64 0, .int .i64 0]⟩ 67)) := Fr.alloc _ _
  have hh := h.fr f0 fun _ _ _ h => h
  obtain ⟨h0, d, c, t, f, g, ap, hp, sp, h1, h2, h3, h4, h5⟩ := hh
  refine cF rfl ⟨_, rfl, _, by rw [add_g]; exact h1.cell 5, ?_⟩
  have fin : ∀ {k c p}, Fr none1 w ((((w.alloc (.cells ⟨[.int .u8 0, .int .i64 0, .int .i64 0]⟩ 67)).setCell ⟨w.heap.size, 0, none⟩ k).setCell ⟨w.heap.size, 1, none⟩ c).setCell ⟨w.heap.size, 2, none⟩ p) := fun {k c p} => (new3 w 67 _ _ _ k c p _ rfl).2.2
  cases act with
  | none =>
    have h5 : ap = none := h5
    subst h5
    obtain ⟨⟨u1, z1, u2, z2, u3, z3⟩, bp, f2⟩ := new3 w 67 (.int .u8 0) (.int .i64 0) (.int .i64 0) (.int .u8 0) (.int .i64 0) (.int .i64 0) _ rfl
    exact cT rfl ⟨u1, z1, u2, z2, u3, z3, _, bp.cell 0, _, bp.cell 1, _, bp.cell 2, rfl, f2⟩
  | some a =>
    obtain ⟨x, rfl, k1, k2⟩ := h5
    obtain ⟨⟨u1, z1, u2, z2, u3, z3⟩, bp, f2⟩ := new3 w 67 (.int .u8 0) (.int .i64 0) (.int .i64 0) (.int .u8 a.k) (.int .i64 a.c) (.int .i64 a.p) _ rfl
    exact cF rfl ⟨_, rfl, _, by rw [add_g]; exact h1.cell 5, _, rfl, _, k2.cell 0, _, k2.cell 1, _, k2.cell 2, u1, z1, u2, z2, u3, z3, _, bp.cell 0, _, bp.cell 1, _, bp.cell 2, rfl, f2⟩
/-- One cell of the robot's own block is written. -/
theorem RobAt.parts (h0 : ok b) {vs : List Value} {hp sp : Nat} (h1 : Blk w b 105 vs) (h3 : Rcv w hp hr) (h4 : Snd w ok sp tr rt []) (h5 : ActAt w ok act ap) (hf : Fr (fun k => k = b) w w') : Rcv w' hp hr ∧ Snd w' ok sp tr rt [] ∧ ActAt w' ok act ap :=
  ⟨Blk.fr h3 hf (Blk.neT h3 h1 (by decide)), h4.fr1 h1 (by decide) (by decide) hf, h5.fr1 h1 (by decide) hf⟩
theorem rbheard_ok (h : RobAt w ok b act done hr tr rt) (ht : tr < 1000000) {A : Option Addr} {c : Nat} {ok2 : Nat → Prop} {p : Pk} (hr' : Rd w ok2 A (bvs (layB p))) (hc : (layB p).length ≤ c) (hp : Pok p) : Ret Try.prog 20 [.pointer (some ⟨b, 0, none⟩), .slice A (layB p).length c] w fun v w' =>
    (∃ x, v = .bool x) ∧ (if rt = true ∧ p.hd = true ∧ p.n = tr + 1 then RobAt w' ok b act done hr (tr + 1) false else RobAt w' ok b act done hr tr rt) ∧ Fr ok w w' := by
  obtain ⟨h0, d, c', t, f, g, ap, hpp, sp, h1, h2, h3, h4, h5⟩ := h
  apply S20_calls
  refine cT rfl ⟨_, rfl, _, by rw [add_g]; exact h1.cell 8, ?_⟩
  refine (shear_ok h4 ht hr' hc hp).use ?_
  rintro v w1 ⟨hv, f1⟩
  obtain ⟨As, cs, hsb⟩ := h4.blk
  have g1 := h1.fr f1 (Blk.neT h1 hsb (by decide))
  have g3 := Blk.fr h3 f1 (Blk.neT h3 hsb (by decide))
  have g5 := h5.fr1 hsb (by decide) f1
  have ff : Fr ok w w1 := f1.mono fun k _ e => by have e : k = sp := e; subst e; exact h4.1
  by_cases hcnd : rt = true ∧ p.hd = true ∧ p.n = tr + 1
  · rw [if_pos hcnd] at hv
    obtain ⟨rfl, g4⟩ := hv
    refine ⟨_, rfl, ⟨_, rfl⟩, ?_, ff⟩
    rw [if_pos hcnd]
    exact ⟨h0, d, c', t, f, g, ap, hpp, sp, g1, h2, g3, g4, g5⟩
  · rw [if_neg hcnd] at hv
    obtain ⟨rfl, g4⟩ := hv
    refine ⟨_, rfl, ⟨_, rfl⟩, ?_, ff⟩
    rw [if_neg hcnd]
    exact ⟨h0, d, c', t, f, g, ap, hpp, sp, g1, h2, g3, g4, g5⟩
theorem rbh_ok (h : RobAt w ok b act done hr tr rt) (ht : tr < 1000000) : Ret Try.prog 58 [.pointer (some ⟨b, 0, none⟩)] w fun v w' => v = .tuple ⟨[]⟩ ∧ RobAt w' ok b act done hr (if rt then tr + 1 else tr) false ∧ Fr ok w w' := by
  have hh := h
  obtain ⟨h0, d, c', t, f, g, ap, hpp, sp, h1, h2, h3, h4, h5⟩ := hh
  apply S58_calls
  refine ⟨_, rfl, _, by rw [add_g]; exact h1.cell 8, ?_⟩
  refine (spacket_ok h4 ht (by simp)).use ?_
  rintro v w1 ⟨hv, f1⟩
  have hz := h.fr f1 fun _ _ _ h => h
  cases rt with
  | false =>
    have hv : v = _ := hv
    subst hv
    exact ⟨_, _, _, _, rfl, cT rfl ⟨rfl, hz, f1.mono fun _ _ h => h.elim⟩⟩
  | true =>
    obtain ⟨A, c, rfl, o⟩ := hv
    refine ⟨_, _, _, _, rfl, cF rfl ?_⟩
    have hpk : Pok ⟨false, tr + 1, []⟩ := ⟨by dsimp only; omega, by simp, by simp⟩
    refine (ltake_ok o.rd o.le hpk).use ?_
    rintro v w2 ⟨A2, c2, rfl, o2, f2⟩
    obtain ⟨⟨u1, z1, u2, z2, u3, z3⟩, bp, f3⟩ := new3 w2 58 (.bool false) (.int .u64 0) (.slice none 0 0) (.bool false) (.int .u64 ((tr + 1 : Nat) : Int)) (.slice A2 (0 : Nat) c2) _ rfl
    refine ⟨_, _, _, _, _, _, rfl, u1, z1, u2, z2, u3, z3, _, bp.cell 1, ?_⟩
    have hpk2 : Pok ⟨true, tr + 1, []⟩ := ⟨by dsimp only; omega, by simp, by simp⟩
    refine (llay_ok (p := ⟨true, tr + 1, []⟩) (A := none) (c := 0) (ok := none1) (.inl rfl) hpk2).use ?_
    rintro v w4 ⟨A4, c4, rfl, o4, f4⟩
    have h4z := ((hz.fr f2 fun _ _ _ h => h).fr f3 fun _ _ _ h => h).fr f4 fun _ _ _ h => h
    have ff := f1.trans' (f2.trans' (f3.trans' f4))
    have h4z' := h4z
    obtain ⟨h0, d, c', t, f, g, ap, hpp, sp, h1, h2, h3, h4, h5⟩ := h4z
    refine ⟨_, _, _, _, rfl, _, rfl, _, by rw [add_g]; exact h1.cell 8, ?_⟩
    refine (shear_ok h4 ht o4.rd o4.le hpk2).use ?_
    rintro v w5 ⟨hv, f5⟩
    rw [if_pos ⟨rfl, rfl, rfl⟩] at hv
    obtain ⟨rfl, g4⟩ := hv
    obtain ⟨As, cs, hsb⟩ := h4.blk
    have g1 := h1.fr f5 (Blk.neT h1 hsb (by decide))
    have g3 := Blk.fr h3 f5 (Blk.neT h3 hsb (by decide))
    have g5 := h5.fr1 hsb (by decide) f5
    exact ⟨_, rfl, rfl, ⟨h0, d, c', t, f, g, ap, hpp, sp, g1, h2, g3, g4, g5⟩, (ff.mono fun _ _ h => h.elim).trans' (f5.mono fun k _ e => by have e : k = sp := e; subst e; exact h4.1)⟩
theorem rbhear_ok (h : RobAt w ok b act done hr tr rt) (ht : tr < 1000000) (hh : hr < 1000000) {A : Option Addr} {c : Nat} {ok2 : Nat → Prop} {p : Pk} (hr' : Rd w ok2 A (bvs (layB p))) (hc : (layB p).length ≤ c) (hp : Pok p) (hpre : hFresh p hr = true → act = none ∧ ∃ a, may a ∧ p.data = pk (ab a)) :
    Ret Try.prog 21 [.pointer (some ⟨b, 0, none⟩), .slice A (layB p).length c] w fun v w' =>
    (∃ A' c', v = .slice A' (hBack p hr).length c' ∧ Own w' 5 1 (from1 w.heap.size) A' (hBack p hr).length c' (bvs (hBack p hr))) ∧
    (if hFresh p hr then ∃ a, may a ∧ p.data = pk (ab a) ∧ RobAt w' (fun k => ok k ∨ w.heap.size ≤ k) b (some a) done (hr + 1) (if rt then tr + 1 else tr) false else RobAt w' (fun k => ok k ∨ w.heap.size ≤ k) b act done hr tr rt) ∧ Fr ok w w' := by
  obtain ⟨ok1, e1⟩ : ∃ ok1 : Nat → Prop, ok1 = fun k => ok k ∧ k < w.heap.size := ⟨_, rfl⟩
  have h := h.mono (ok' := ok1) fun k hk h => by rw [e1]; exact ⟨h, hk⟩
  have eo : ∀ {k}, ok1 k → ok k ∧ k < w.heap.size := fun h => by rw [e1] at h; exact h
  obtain ⟨h0, d, c', t, f, g, ap, hpp, sp, h1, h2, h3, h4, h5⟩ := h
  apply S21_calls
  refine cF rfl ⟨_, rfl, _, by rw [add_g]; exact h1.cell 7, ?_⟩
  refine (rhear_ok h3 hh hr' hc hp).use ?_
  rintro v w1 ⟨⟨A1, c1, A2, c2, rfl, o1, o2⟩, k3, f1⟩
  have k1 := h1.fr f1 (Blk.neT h1 h3 (by decide))
  have k4 := h4.fr1 h3 (by decide) (by decide) f1
  have k5 := h5.fr1 h3 (by decide) f1
  have ff : Fr ok w w1 := f1.mono fun k _ e => by have e : k = hpp := e; subst e; exact (eo h2).1
  have hs1 := f1.size
  refine ⟨_, _, _, _, _, _, _, rfl, ?_⟩
  cases hfr : hFresh p hr with
  | false =>
    rw [hfr] at k3
    have K : RobAt w1 ok1 b act done hr tr rt := ⟨h0, d, c', t, f, g, ap, hpp, sp, k1, h2, k3, k4, k5⟩
    have K' : RobAt w1 (fun k => ok k ∨ w.heap.size ≤ k) b act done hr tr rt := K.mono fun k _ hk => .inl (eo hk).1
    exact cT rfl (cT rfl ⟨⟨A2, c2, rfl, o2⟩, K', ff⟩)
  | true =>
    obtain ⟨rfl, a, ha, hda⟩ := hpre hfr
    rw [hfr] at k3
    have hap : ap = none := h5
    subst hap
    refine cF rfl ⟨_, rfl, _, by rw [add_g]; exact k1.cell 5, cF rfl ?_⟩
    have hD : hData p hr = pk (ab a) := by unfold hData; rw [hfr]; exact hda
    have hal := pk_length (ab a)
    have ablen : (ab a).length = 16 := by unfold ab; simp [nb_length]
    rw [hD] at o1 ⊢
    refine (atake_ok o1.rd (by omega)).use ?_
    rintro v w2 ⟨rfl, f2⟩
    rw [atake_lay ha]
    obtain ⟨⟨u1, z1, u2, z2, u3, z3⟩, bp, f3⟩ := new3 w2 67 (.int .u8 0) (.int .i64 0) (.int .i64 0) (.int .u8 a.k) (.int .i64 a.c) (.int .i64 a.p) _ rfl
    refine ⟨_, _, _, _, rfl, u1, z1, u2, z2, u3, z3, cT rfl ?_⟩
    have f23 := f2.trans' f3
    have hs2 := f2.size
    have R1 : RobAt w1 ok1 b none done (hr + 1) tr rt := ⟨h0, d, c', t, f, g, none, hpp, sp, k1, h2, k3, k4, rfl⟩
    refine (rbh_ok (R1.fr f23 fun _ _ _ h => h) ht).use ?_
    rintro v w4 ⟨rfl, R4, f4⟩
    refine ⟨rfl, _, rfl, ?_⟩
    have bp4 := bp.fr f4 fun h => by have := (eo h).2; omega
    have q4 := (o2.fr f23 fun _ _ _ h => h).fr f4 fun k _ h1 h => by have h1 : w.heap.size ≤ k := h1; have := (eo h).2; omega
    obtain ⟨g0, d, c', t, f, g, ap, hpp, sp, g1, g2, g3, g4, g5⟩ := R4
    have hap : ap = none := g5
    subst hap
    obtain ⟨⟨u4, z4⟩, j4, f5⟩ := g1.wr1 5 (by simp) (.pointer (some ⟨w2.heap.size, 0, none⟩))
    obtain ⟨m3, m4, _⟩ := RobAt.parts g0 g1 g3 g4 g5 f5
    have q5 := q4.fr1 f5 fun a ha => q4.ne_blk g1 (by decide) a ha
    have bp5 := bp4.fr f5 (Blk.neT bp4 g1 (by decide))
    rw [add_g]
    refine ⟨u4, z4, ⟨A2, c2, rfl, q5⟩, ?_, ff.trans' ((f23.mono fun _ _ h => h.elim).trans' ((f4.mono fun k _ h => (eo h).1).trans' (f5.mono fun k _ e => by have e : k = b := e; subst e; exact (eo g0).1)))⟩
    exact ⟨a, ha, hda, .inl (eo g0).1, d, c', t, f, g, _, hpp, sp, j4, .inl (eo g2).1, m3, m4.mono fun k _ hk => .inl (eo hk).1, _, rfl, .inr (Nat.le_trans hs1 hs2), bp5⟩
theorem rbstep_ok (h : RobAt w ok b act done hr tr rt) (hd : done < 1000000) (ht : tr < 1000000) (hpre : act ≠ none → rt = false) : Ret Try.prog 35 [.pointer (some ⟨b, 0, none⟩)] w fun v w' =>
    ∃ x : Bool, v = .bool x ∧ (if x then act ≠ none ∧ RobAt w' (fun k => ok k ∨ w.heap.size ≤ k) b none (done + 1) hr tr true else RobAt w' (fun k => ok k ∨ w.heap.size ≤ k) b act done hr tr rt) ∧ Fr ok w w' := by
  have hz := h
  have hz' : RobAt w (fun k => ok k ∨ w.heap.size ≤ k) b act done hr tr rt := h.mono fun k _ hk => .inl hk
  obtain ⟨h0, d, c, t, f, g, ap, hp, sp, h1, h2, h3, h4, h5⟩ := h
  apply S35_calls
  refine cF rfl ⟨_, rfl, _, by rw [add_g]; exact h1.cell 5, ?_⟩
  cases act with
  | none =>
    have h5 : ap = none := h5
    subst h5
    exact cT rfl ⟨false, rfl, hz', Fr.refl _ _⟩
  | some a =>
    have hrt := hpre (by simp)
    subst hrt
    obtain ⟨x, rfl, k1, k2⟩ := h5
    refine cF rfl ⟨_, rfl, _, by rw [add_g]; exact h1.cell 5, _, rfl, _, k2.cell 0, ?_⟩
    have fb : ∀ {w1 w2 : World}, Fr (fun k => k = b) w1 w2 → Fr ok w1 w2 := fun f => f.mono fun k _ e => by have e : k = b := e; subst e; exact h0
    -- the end
    have k3 : ∀ {w1 : World} {d c t f g : Int}, Blk w1 b 105 [.int .i64 d, .int .i64 c, .int .i64 t, .int .i64 f, .int .i64 g, .pointer (some ⟨x, 0, none⟩), .int .u64 (done : Int), .pointer (some ⟨hp, 0, none⟩), .pointer (some ⟨sp, 0, none⟩)] → Fr (fun k => k = b) w w1 → S35_k3 (some ⟨b, 0, none⟩) w1 (fun v w' => ∃ x : Bool, v = .bool x ∧ (if x then some a ≠ none ∧ RobAt w' (fun k => ok k ∨ w.heap.size ≤ k) b none (done + 1) hr tr true else RobAt w' (fun k => ok k ∨ w.heap.size ≤ k) b (some a) done hr tr false) ∧ Fr ok w w') := by
      intro w1 d c t f g hb f1
      obtain ⟨⟨u1, z1⟩, j1, e1⟩ := hb.wr1 5 (by simp) (.pointer none)
      obtain ⟨⟨u2, z2⟩, j2, e2⟩ := j1.wr1 6 (by simp) (.int .u64 ((done + 1 : Nat) : Int))
      have e02 := f1.trans' (e1.trans' e2)
      refine ⟨_, rfl, by rw [add_g]; exact u1, by rw [add_g]; exact z1, _, rfl, _, by rw [add_g, add_g]; exact j1.cell 6, _, rfl, by rw [add_g, add_g]; exact u2, by rw [add_g, add_g]; exact z2, ?_⟩
      rw [u64_succ (by omega), add_g, add_g]
      refine ⟨_, rfl, _, by rw [add_g]; exact j2.cell 8, ?_⟩
      have hs := e02.size
      obtain ⟨m3, m4, _⟩ := RobAt.parts h0 h1 h3 h4 (ap := none) (act := none) rfl e02
      refine (stell_ok m4 ht (A := none) (c := 0) (ok2 := none1) (xs := []) (.inl rfl) (by simp)).use ?_
      rintro v w3 ⟨rfl, m5, e3⟩
      obtain ⟨As, cs, hsb⟩ := m4.blk
      have j3 := j2.fr e3 (Blk.neT j2 hsb (by decide))
      have m6 := Blk.fr m3 e3 (Blk.neT m3 hsb (by decide))
      exact ⟨_, rfl, true, rfl, ⟨by simp, .inl h0, d, c, t, f, g, none, hp, sp, j3, .inl h2, m6, m5.mono fun k _ hk => hk.elim .inl fun h => .inr (by omega), rfl⟩, (fb e02).trans' (e3.mono fun k _ e => by have e : k = sp := e; subst e; exact h4.1)⟩
    have k1' : ∀ {x0 : Bool}, S35_k1 (some ⟨b, 0, none⟩) x0 w (fun v w' => ∃ x : Bool, v = .bool x ∧ (if x then some a ≠ none ∧ RobAt w' (fun k => ok k ∨ w.heap.size ≤ k) b none (done + 1) hr tr true else RobAt w' (fun k => ok k ∨ w.heap.size ≤ k) b (some a) done hr tr false) ∧ Fr ok w w') := by
      intro x0
      refine cB (fun _ => ?_) (fun _ => ?_)
      · refine ⟨_, rfl, _, by rw [add_g]; exact h1.cell 4, cD (fun _ => ?_) (fun _ => ⟨false, rfl, hz', Fr.refl _ _⟩)⟩
        obtain ⟨⟨u1, z1⟩, j1, e1⟩ := h1.wr1 4 (by simp) (.int .i64 (IntKind.i64.wrap (g - 1)))
        obtain ⟨⟨u2, z2⟩, j2, e2⟩ := j1.wr1 2 (by simp) (.int .i64 a.c)
        have hx1 := Blk.fr k2 e1 (Blk.neT k2 h1 (by decide))
        have e02 := e1.trans' e2
        refine ⟨_, rfl, _, by rw [add_g]; exact h1.cell 4, _, rfl, by rw [add_g]; exact u1, by rw [add_g]; exact z1, _, rfl, _, by rw [add_g, add_g]; exact j1.cell 5, _, rfl, _, by rw [add_g, add_g]; exact hx1.cell 1, _, rfl, by rw [add_g, add_g]; exact u2, by rw [add_g, add_g]; exact z2, ?_⟩
        rw [add_g, add_g]
        obtain ⟨m3, m4, m5⟩ := RobAt.parts h0 h1 h3 h4 (act := some a) ⟨x, rfl, k1, k2⟩ e02
        have K : RobAt _ ok b (some a) done hr tr false := ⟨h0, _, _, _, _, _, _, hp, sp, j2, h2, m3, m4, m5⟩
        have K' : RobAt _ (fun k => ok k ∨ w.heap.size ≤ k) b (some a) done hr tr false := K.mono fun k _ hk => .inl hk
        exact ⟨false, rfl, K', fb e02⟩
      · refine ⟨_, rfl, _, by rw [add_g]; exact h1.cell 5, _, rfl, _, k2.cell 0, cD (fun _ => ?_) (fun _ => k3 h1 (Fr.refl _ _))⟩
        obtain ⟨⟨u1, z1⟩, j1, e1⟩ := h1.wr1 1 (by simp) (.int .i64 t)
        obtain ⟨⟨u2, z2⟩, j2, e2⟩ := j1.wr1 2 (by simp) (.int .i64 (-1))
        refine ⟨_, rfl, _, by rw [add_g]; exact h1.cell 2, _, rfl, by rw [add_g]; exact u1, by rw [add_g]; exact z1, _, rfl, by rw [add_g, add_g]; exact u2, by rw [add_g, add_g]; exact z2, _, rfl, _, rfl, ?_⟩
        rw [add_g, add_g]
        have fd : Fr none1 _ (World.drew ((w.setCell ⟨b, 1, none⟩ (.int .i64 t)).setCell ⟨b, 2, none⟩ (.int .i64 (-1)))) := Fr.drew _
        have j3 := j2.fr fd fun h => h
        have e03 := e1.trans' (e2.trans' (fd.mono fun _ _ h => h.elim))
        refine ⟨_, j3.cell 1, _, j3.cell 0, cB (fun _ => ?_) (fun _ => k3 j3 e03)⟩
        obtain ⟨⟨u4, z4⟩, j4, e4⟩ := j3.wr1 4 (by simp) (.int .i64 f)
        refine ⟨_, rfl, _, by rw [add_g]; exact j3.cell 3, _, rfl, by rw [add_g]; exact u4, by rw [add_g]; exact z4, ?_⟩
        rw [add_g]
        exact k3 j4 (e03.trans' e4)
    refine cD (fun _ => ⟨_, rfl, _, by rw [add_g]; exact h1.cell 2, k1'⟩) (fun _ => k1')
end
end Go.Proofs
