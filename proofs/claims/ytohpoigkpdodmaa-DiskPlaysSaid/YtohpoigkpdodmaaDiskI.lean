import Derived.Test.YtohpoigkpdodmaaDiskH
set_option linter.unusedVariables false
namespace Go.Proofs
open Go Go.Eng
theorem xor_step {w : World} {ok : Nat → Prop} {A : Option Addr} {l c : Nat} {vs : List Value} (h : Own w 5 1 ok A l c vs) (hv : ∀ v ∈ vs, ∃ n, v = .int .u8 n) {i : Nat} (hi : i < l) :
    ∃ (a : Addr) (n : Int), A = some a ∧ w.cell? (a.add (i * 1)) = some (.int .u8 n) ∧ (∃ u, w.cell? (a.add (i * 1)) = some u) ∧ w.frozen? (a.add (i * 1)) = false ∧
      ∀ m : Int, ∃ vs', Own (w.setCell (a.add (i * 1)) (.int .u8 m)) 5 1 ok A l c vs' ∧ (∀ v ∈ vs', ∃ n, v = .int .u8 n) ∧ Fr (ownAt A) w (w.setCell (a.add (i * 1)) (.int .u8 m)) := by
  obtain ⟨g, rfl, _, _⟩ := h.form (by omega)
  have hlen := h.1
  have hx : vs[i]? = some vs[i] := List.getElem?_eq_getElem (by omega)
  obtain ⟨n, hn⟩ := hv _ (List.getElem_mem (l := vs) (n := i) (by omega))
  obtain ⟨a, ha, _, hc⟩ := h.rd.at hx
  cases ha
  rw [Nat.mul_one]
  rw [hn] at hc
  refine ⟨_, n, rfl, hc, ⟨_, hc⟩, by rw [add_g]; exact h.free i, fun m => ?_⟩
  rw [add_g]
  refine ⟨vs.set i (.int .u8 m), h.set i _, fun v hv' => ?_, Fr.setCell w ⟨_, rfl, rfl⟩ _⟩
  rcases List.mem_or_eq_of_mem_set hv' with h' | h'
  · exact hv v h'
  · exact ⟨m, h'⟩
theorem bvs_u8 (xs : List UInt8) : ∀ v ∈ bvs xs, ∃ n, v = .int .u8 n := by
  intro v hv
  simp [bvs] at hv
  obtain ⟨b, _, rfl⟩ := hv
  exact ⟨_, rfl⟩
def Two (B : Nat) (W w : World) (d r : Nat) (D : Dsk) : Prop := Bel B W w ∧ DIn B w d D ∧ RefD w r D ∧ B ≤ r ∧ B ≤ W.heap.size
section
variable {B : Nat} {W w : World} {d r : Nat} {D : Dsk}
theorem Two.fr0 {w' : World} (h : Two B W w d r D) (f : Fr none1 w w') : Two B W w' d r D :=
  ⟨h.1.trans' f.bel0, DiskAt.fr0 h.2.1 f, h.2.2.1.fr f (fun h => h), h.2.2.2⟩
theorem doT (hB : B ≤ w.heap.size) (h : DIn B w d D) (x : Act) {A : Option Addr} {c : Nat} (hr : Rd w (fun k => k < B) A (bvs x.2.1)) (hx : x.2.2 ≤ IntKind.i64.max) :
    Ret Try.prog 17 [.pointer (some ⟨d, 0, none⟩), .agg ⟨[.int .u8 x.1, .slice A x.2.1.length c, .int .i64 x.2.2]⟩] w fun v w' => v = .int .i64 (doE D x) ∧ DIn B w' d (doD D x) ∧ Fr (fun k => B ≤ k ∧ hasTy w [51, 5] k) w w' :=
  (does_ok (DiskAt.tight h) x hr (fun k _ hk e => by have h1 : B ≤ d := h.1; omega) hx).imp fun v w' ⟨h1, h2, h3⟩ =>
    ⟨h1, h2.mono fun k _ hk => by rcases hk with hk | hk; exact hk.1; exact Nat.le_trans hB hk, h3.mono fun k _ h => h⟩
theorem plays_k6 {R : Value → World → Prop} {B1 : Option Addr × Int × Unit → World → Prop} {A A' : Option Addr} {l c l' c' : Nat} {m : Int} {n : Nat} {vs : List Value} {ok ok' : Nat → Prop}
    (ho : Own w 5 1 ok' A' l' c' vs) (hv : ∀ v ∈ vs, ∃ n, v = .int .u8 n) (h0 : Bel B W w) (h1 : DiskAt w ok d D) (h2 : RefD w r D) (hr : B ≤ r ∧ B ≤ W.heap.size) (ha : ∀ a, A' = some a → ¬ ok a.block ∧ B ≤ a.block) (hok : ∀ k, ok k → B ≤ k)
    (hn : (n : Int) + 1 ≤ 1000) (k : ∀ w', Two B W w' d r D → B1 (some ⟨d, 0, none⟩, (n : Int) + 1, ()) w') :
    S5_k6 true (some ⟨d, 0, none⟩) (some ⟨r, 0, none⟩) A' l' c' A l c m (n : Int) w R B1 := by
  have hl := ho.max
  simp only [maxLen] at hl
  refine ⟨fun s w' => ∃ (i : Nat) (vs' : List Value), s.1 = (i : Int) ∧ i ≤ l' ∧ Own w' 5 1 ok' A' l' c' vs' ∧ (∀ v ∈ vs', ∃ n, v = .int .u8 n) ∧ Fr (ownAt A') w w', fun s _ => l' - s.1.toNat, ⟨0, vs, rfl, Nat.zero_le _, ho, hv, Fr.refl _ _⟩, ?_⟩
  rintro J ⟨i', ⟨⟩⟩ w1 ⟨i, vs', hi, hle, o1, v1, f1⟩
  dsimp only at hi ⊢
  subst hi
  refine cD (fun hlt => ?_) (fun hlt => ?_)
  · have hlt' : (i : Int) < (l' : Int) := by split at hlt <;> omega
    obtain ⟨a, x, e1, e2, e3, e4, e5⟩ := xor_step o1 v1 (i := i) (by omega)
    obtain ⟨vs2, o2, v2, f2⟩ := e5 (bitsI .xor .u8 x 85)
    refine ⟨a, e1, by omega, by omega, x, by rw [Int.toNat_natCast]; exact e2, a, e1, by omega, by omega, by rw [Int.toNat_natCast]; exact e3, by rw [Int.toNat_natCast]; exact e4, ?_⟩
    rw [IntWalk.i64_in ((i : Int) + 1) (by omega), Int.toNat_natCast]
    exact ⟨⟨i + 1, vs2, by simp, by omega, o2, v2, f1.trans' f2⟩, by dsimp only; omega⟩
  · have fb : Bel B w w1 := f1.bel fun k ⟨a, h, e⟩ => e ▸ (ha a h).2
    rw [IntWalk.i64_in ((n : Int) + 1) (by omega)]
    refine k w1 ⟨h0.trans' fb, (h1.fr f1 fun k hk ho ⟨a, h, e⟩ => (ha a h).1 (e ▸ ho)).mono fun k hk h => hok k h, h2.fr f1 fun ⟨a, h, e⟩ => ?_, hr⟩
    obtain ⟨cur, hc⟩ := ho.obj a h
    exact h2.1.notTy (ts := [5]) (by decide) (e ▸ ⟨cur, 5, hc, by decide⟩)
theorem plays_k4 {R : Value → World → Prop} {B1 : Option Addr × Int × Unit → World → Prop} {A : Option Addr} {l c : Nat} {m : Int} {n : Nat} (h : Two B W w d r D)
    (hn : (n : Int) + 1 ≤ 1000) (k : ∀ w', Two B W w' d r D → B1 (some ⟨d, 0, none⟩, (n : Int) + 1, ()) w') :
    S5_k4 true (some ⟨d, 0, none⟩) (some ⟨r, 0, none⟩) A l c m (n : Int) w R B1 := by
  obtain ⟨h0, h1, h2, hr⟩ := h
  refine (read_ok h1).use ?_
  rintro v w1 ⟨A', c', rfl, o1, f1⟩
  refine ⟨_, _, _, _, rfl, ?_⟩
  have h1b : DiskAt w (bw B w) d D := DiskAt.mono h1 fun k hk h => ⟨h, hk⟩
  have i0 := h0.trans' f1.bel0
  have i1 := h1b.fr0 f1
  have i2 := h2.fr f1 (fun h => h)
  refine (ref_read i2).use ?_
  rintro v w1 ⟨rfl, rfl⟩
  refine ⟨_, _, rfl, ?_⟩
  have fd : Fr none1 w1 w1.drew := Fr.drew w1
  replace o1 := o1.fr fd (fun _ _ _ h => h)
  replace i0 := i0.trans' fd.bel0
  replace i1 := i1.fr0 fd
  replace i2 := i2.fr fd (fun h => h)
  generalize w1.drew = w2 at o1 i0 i1 i2 ⊢
  refine ⟨_, _, run_toString U28 U5 U9 rfl o1.rd, cF (by simp) (cF (by simp) ?_)⟩
  have fin : S5_k5 true (some ⟨d, 0, none⟩) (some ⟨r, 0, none⟩) A' (rdB D).length c' A l c m (n : Int) (!decide ((D.safe : Int) = (D.safe : Int))) w2 R B1 := by
    refine cF (by simp) (plays_k6 o1 (bvs_u8 _) i0 i1 i2 hr (fun a ha => ?_) (fun k h => h.1) hn k)
    have : w.heap.size ≤ a.block := (o1.has a ha).1
    have := h0.size
    have := hr.2
    exact ⟨fun h => by have := h.2; omega, by omega⟩
  have c2 : w2.cell? ((⟨r, 0, none⟩ : Addr).add 2) = some (.bool D.dead) := by rw [add_g]; exact (i2.1.cell 2).trans rfl
  have c1 : w2.cell? ((⟨r, 0, none⟩ : Addr).add 1) = some (.int .i64 (D.safe : Int)) := by rw [add_g]; exact (i2.1.cell 1).trans rfl
  have rest : ∃ (t82 : Addr), some (⟨r, 0, none⟩ : Addr) = some t82 ∧
      (Calls Try.prog 15 ⟨[(.pointer (some ⟨d, 0, none⟩))]⟩ w2 fun e w_ => ∃ (t80 : Int), e = .returned (.int .i64 t80) ∧ ∃ (t84 : Int), w_.cell? (t82.add 1) = some (.int .i64 t84) ∧ S5_k5 true (some ⟨d, 0, none⟩) (some ⟨r, 0, none⟩) A' (rdB D).length c' A l c m (n : Int) (!decide ((t80 : Int) = t84)) w_ R B1) ∧
      (∃ (t84 : Int), w2.cell? (t82.add 1) = some (.int .i64 t84) ∧ Calls Try.prog 15 ⟨[(.pointer (some ⟨d, 0, none⟩))]⟩ w2 fun e w_ => ∃ (t80 : Int), e = .returned (.int .i64 t80) ∧ S5_k5 true (some ⟨d, 0, none⟩) (some ⟨r, 0, none⟩) A' (rdB D).length c' A l c m (n : Int) (!decide ((t80 : Int) = t84)) w_ R B1) := by
    refine ⟨_, rfl, ?_, _, c1, ?_⟩
    · refine (safe_ok i1).use ?_
      rintro v w2 ⟨rfl, rfl⟩
      exact ⟨_, rfl, _, c1, fin⟩
    · refine (safe_ok i1).use ?_
      rintro v w2 ⟨rfl, rfl⟩
      exact ⟨_, rfl, fin⟩
  refine ⟨_, rfl, ?_, _, c2, ?_⟩
  · refine (dead_ok i1).use ?_
    rintro v w2 ⟨rfl, rfl⟩
    exact ⟨_, rfl, _, c2, cF (by simp) rest⟩
  · refine (dead_ok i1).use ?_
    rintro v w2 ⟨rfl, rfl⟩
    exact ⟨_, rfl, cF (by simp) rest⟩
theorem plays_k2 {R : Value → World → Prop} {B1 : Option Addr × Int × Unit → World → Prop} {A A1 : Option Addr} {l c c1 t : Nat} {m : Int} {n : Nat} (h : Two B W w d r D) (x : Act)
    (hb : Blk w t 36 [.int .u8 x.1, .slice A1 x.2.1.length c1, .int .i64 x.2.2]) (hr : Rd w (fun k => k < B) A1 (bvs x.2.1)) (hx : x.2.2 ≤ IntKind.i64.max) (hl : x.2.1.length ≤ 1000000)
    (hn : (n : Int) + 1 ≤ 1000) (k : ∀ w' D', Two B W w' d r D' → B1 (some ⟨d, 0, none⟩, (n : Int) + 1, ()) w') :
    S5_k2 true (some ⟨d, 0, none⟩) (some ⟨r, 0, none⟩) ⟨t, 0, none⟩ A l c m (n : Int) w R B1 := by
  refine cF rfl ?_
  have fd : Fr none1 w w.drew := Fr.drew w
  replace h := h.fr0 fd
  replace hb := hb.fr fd (fun h => h)
  replace hr := hr.fr fd (fun _ _ _ h => h)
  generalize w.drew = w1 at h hb hr ⊢
  obtain ⟨h0, h1, h2, hB⟩ := h
  have a0 : ∀ {w' : World}, Blk w' t 36 [.int .u8 x.1, .slice A1 x.2.1.length c1, .int .i64 x.2.2] → w'.cell? ⟨t, 0, none⟩ = some (.int .u8 x.1) ∧ w'.cell? ((⟨t, 0, none⟩ : Addr).add 1) = some (.slice A1 x.2.1.length c1) ∧ w'.cell? ((⟨t, 0, none⟩ : Addr).add 2) = some (.int .i64 x.2.2) := fun b => ⟨(b.cell 0).trans rfl, by rw [add_g]; exact (b.cell 1).trans rfl, by rw [add_g]; exact (b.cell 2).trans rfl⟩
  obtain ⟨q0, q1, q2⟩ := a0 hb
  have both : ∀ w2, DIn B w2 d (doD D x) → Fr (fun k => B ≤ k ∧ hasTy w1 [51, 5] k) w1 w2 →
      RefD w2 r D ∧ Blk w2 t 36 [.int .u8 x.1, .slice A1 x.2.1.length c1, .int .i64 x.2.2] ∧ Rd w2 (fun k => k < B) A1 (bvs x.2.1) ∧ ∀ w3, RefD w3 r (doD D x) → Fr (toD r) w2 w3 → Two B W w3 d r (doD D x) := by
    intro w2 i1 f2
    have i2 := h2.fr f2 fun h => h2.1.notTy (by decide) h.2
    refine ⟨i2, hb.fr f2 fun h => hb.notTy (by decide) h.2, hr.fr f2 fun k _ h1 h2 => by have := h2.1; omega, fun w3 j2 f3 => ⟨h0.trans' ((f2.bel fun k h => h.1).trans' (toD_bel hB.1 f3)), ?_, j2, hB⟩⟩
    refine DiskAt.mono (DiskAt.fr (DiskAt.tight i1) f3 fun k _ h e => ?_) fun k _ h => h.1
    have e : k = r := e
    subst e
    exact i2.1.notTy (by decide) h.2
  have fin : ∀ w3, Two B W w3 d r (doD D x) → S5_k3 true (some ⟨d, 0, none⟩) (some ⟨r, 0, none⟩) A l c m (n : Int) (!decide (doE D x = doE D x)) w3 R B1 := fun w3 h => cF (by simp) (plays_k4 h hn fun w' h => k w' _ h)
  refine ⟨_, q0, _, _, _, q1, _, q2, ?_, _, q0, _, _, _, q1, _, q2, ?_⟩
  · refine (doT (Nat.le_trans hB.2 h0.size) h1 x hr hx).use ?_
    rintro v w2 ⟨rfl, i1, f2⟩
    obtain ⟨i2, b2, r2, nx⟩ := both w2 i1 f2
    obtain ⟨q0, q1, q2⟩ := a0 b2
    refine ⟨_, rfl, _, q0, _, _, _, q1, _, q2, ?_⟩
    refine (model_ok i2 x r2 hx hl).use ?_
    rintro v w3 ⟨rfl, j2, f3⟩
    exact ⟨_, rfl, fin _ (nx w3 j2 f3)⟩
  · refine (doT (Nat.le_trans hB.2 h0.size) h1 x hr hx).use ?_
    rintro v w2 ⟨rfl, i1, f2⟩
    obtain ⟨i2, b2, r2, nx⟩ := both w2 i1 f2
    refine ⟨_, rfl, ?_⟩
    refine (model_ok i2 x r2 hx hl).use ?_
    rintro v w3 ⟨rfl, j2, f3⟩
    exact ⟨_, rfl, fin _ (nx w3 j2 f3)⟩
end
section
variable {W : World}
theorem diskPlays_ok {A : Option Addr} {l c : Nat} {al : List Act} (h : RowAt W.heap.size 3 (ActQ W W.heap.size) A al) (hl : al.length = l) (hc : l ≤ c) : Ret Try.prog 5 [.slice A l c] W (Done W) := by
  apply S5_calls
  refine (shown_ok _).use ?_
  rintro v w1 ⟨rfl, f1⟩
  refine ⟨_, rfl, ?_⟩
  refine (new_ok w1).use ?_
  rintro v w2 ⟨rfl, h2, f2⟩
  refine ⟨_, rfl, ?_⟩
  refine (ref_new w2).use ?_
  rintro v w3 ⟨rfl, h3, f3⟩
  refine ⟨_, rfl, ?_⟩
  have hd : W.heap.size ≤ w1.heap.size := f1.size
  have g3 : Bel W.heap.size W w3 := f1.bel0.trans' (f2.bel0.trans' f3.bel0)
  have two : Two W.heap.size w3 w3 w1.heap.size w2.heap.size ⟨[], 0, false, -1⟩ := ⟨Fr.refl _ _, (h2.mono fun k _ h => Nat.le_trans hd h).fr0 f3, h3, Nat.le_trans hd f2.size, g3.size⟩
  generalize w1.heap.size = d0 at two ⊢
  generalize w2.heap.size = r at two ⊢
  have hrow3 : RowAt W.heap.size 3 (ActQ w3 W.heap.size) A al := fun j x hx => by
    obtain ⟨a, ha, hb, hq⟩ := h j x hx
    exact ⟨a, ha, hb, hq.fr (Nat.le_refl _) (by rw [add_block]; exact hb) g3⟩
  refine (few_ok hrow3 hl hc).use ?_
  rintro v w3 ⟨rfl, n1, d1, bs, rfl, hbl, hb100, hrow, hsmall⟩
  refine ⟨_, _, _, rfl, ?_⟩
  refine ⟨fun s w' => ∃ (n d : Nat) (D : Dsk), s.1 = some ⟨d, 0, none⟩ ∧ s.2.1 = (n : Int) ∧ n ≤ n1 ∧ Two W.heap.size w3 w' d r D, fun s _ => n1 - s.2.1.toNat, ⟨0, d0, _, rfl, rfl, Nat.zero_le _, two⟩, ?_⟩
  rintro J ⟨t4, i, ⟨⟩⟩ w4 ⟨n, d, D, ht, hi, hn, h4⟩
  have g4 := h4.1
  dsimp only at ht hi ⊢
  subst hi
  subst ht
  refine cD (fun hlt => ?_) (fun hlt => ?_)
  · have hx : bs[n]? = some bs[n] := List.getElem?_eq_getElem (by omega)
    obtain ⟨a, ha, hab, hq⟩ := hrow n _ hx
    have hsm := hsmall _ (List.getElem_mem (l := bs) (n := n) (by omega))
    generalize bs[n] = x at hx hq hsm
    obtain ⟨A1, c1, q1, q2, q3, q4, q5, q6, q7, q8⟩ := hq.fr g3.size (by rw [add_block]; exact hab) g4
    refine ⟨a, ha, by omega, by omega, _, by rw [Int.toNat_natCast]; exact q1, _, _, _, by rw [Int.toNat_natCast]; exact q2, _, by rw [Int.toNat_natCast]; exact q3, ?_⟩
    obtain ⟨p1, p2, p3, p4, p5, p6, b5, f5⟩ := cp3 w4 36 (.int .u8 0) (.slice none 0 0) (.int .i64 0) (.int .u8 x.1) (.slice A1 x.2.1.length c1) (.int .i64 x.2.2)
    refine ⟨p1, p2, p3, p4, p5, p6, ?_⟩
    generalize World.setCell _ _ _ = w5 at b5 f5 ⊢
    have h5 := h4.fr0 f5
    have r5 := q4.fr f5 fun _ _ _ h => h
    have ht := b5.lt
    have hd4 := DiskAt.lt h4.2.1
    have hts := f5.size
    generalize w4.heap.size = t at b5 ht hd4 hts ⊢
    have gt : Bel W.heap.size w3 w5 := g4.trans' f5.bel0
    have hk2 : ∀ (w6 : World) (e : Nat), Two W.heap.size w3 w6 e r D → Blk w6 t 36 [.int .u8 x.1, .slice A1 x.2.1.length c1, .int .i64 x.2.2] → Rd w6 (fun k => k < W.heap.size) A1 (bvs x.2.1) →
        S5_k2 true (some ⟨e, 0, none⟩) (some ⟨r, 0, none⟩) ⟨t, 0, none⟩ A n1 d1 (n1 : Int) (n : Int) w6 (Done W) (fun s' w'' => (∃ (n d : Nat) (D : Dsk), s'.1 = some ⟨d, 0, none⟩ ∧ s'.2.1 = (n : Int) ∧ n ≤ n1 ∧ Two W.heap.size w3 w'' d r D) ∧ n1 - s'.2.1.toNat < n1 - (n : Int).toNat) := by
      intro w6 e t6 b6 r6
      refine plays_k2 t6 x b6 r6 q8 (by omega) (by omega) fun w7 D' t7 => ⟨⟨n + 1, e, D', rfl, rfl, by omega, t7⟩, by dsimp only; omega⟩
    refine ⟨x.1, (b5.cell 0).trans rfl, by decide, ?_⟩
    refine cD (fun h5k => ?_) (fun h5k => ?_)
    · have l5 := b5.lt
      have h5b : DiskAt w5 (bw W.heap.size w5) d D := DiskAt.mono h5.2.1 fun k hk h => ⟨h, hk⟩
      refine (copy_ok h5b).use ?_
      rintro v w6 ⟨e, rfl, e6, f6⟩
      obtain ⟨w7, n7, d7, f7⟩ := run_bmark U28 U5 w6 [111, 116, 104, 101, 114] 5 5
      refine ⟨_, rfl, _, _, _, w7, n7, ?_⟩
      have old7 := ((h5b.fr0 f6).fr0 f7).tight
      have e7 := e6.fr0 f7
      have b7 := (b5.fr f6 (fun h => h)).fr f7 (fun h => h)
      have r7 := (h5.2.2.1.fr f6 (fun h => h)).fr f7 (fun h => h)
      have rd7 := (r5.fr f6 (fun _ _ _ h => h)).fr f7 (fun _ _ _ h => h)
      have s6 := f6.size
      have l4 := DiskAt.lt h5.2.1
      have hB3 := h5.2.2.2.2
      refine (append_ok' old7 (xs := [111, 116, 104, 101, 114]) (c2 := 5) (fun w' f => d7.fr f fun k _ h1 e => by have e : k = d := e; simp only [from1] at h1; omega)).use ?_
      rintro v w8 ⟨rfl, old8, f8⟩
      refine ⟨_, rfl, ?_⟩
      refine (sync_ok old8).use ?_
      rintro v w9 ⟨rfl, old9, f9⟩
      refine ⟨_, rfl, ?_⟩
      refine (crash_ok old9 0).use ?_
      rintro v w10 ⟨rfl, _, f10⟩
      refine ⟨rfl, ?_⟩
      have fall : Fr (fun k => bw W.heap.size w5 k ∧ hasTy w7 [51, 5] k) w7 w10 := f8.trans' ((toD_ok old7.1 f9).trans' (toD_ok old7.1 f10))
      refine hk2 w10 e ⟨?_, ?_, r7.fr fall fun h => r7.1.notTy (by decide) h.2, h5.2.2.2⟩ (b7.fr fall fun h => b7.notTy (by decide) h.2) (rd7.fr fall fun k _ h1 h => by have := h.1.1; omega)
      · exact h5.1.trans' (f6.bel0.trans' (f7.bel0.trans' (fall.bel fun k h => h.1.1)))
      · exact (e7.fr fall fun k _ h1 h => by have := h.1.2; simp only [from1] at h1; omega).mono fun k _ h => by simp only [from1] at h ⊢; have := h5.1.size; omega
    · exact hk2 w5 d h5 b5 r5
  · exact cT rfl ⟨rfl, (g3.trans' g4).top⟩
end
end Go.Proofs
