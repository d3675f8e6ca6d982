/- TopTold: what is told and done, and which blocks are whose. -/
import Derived.Test.YtmhjjhpgbafjpaaRbCtop
set_option linter.unusedVariables false
set_option maxRecDepth 100000
namespace Go.Proofs
open Go Go.Eng
theorem Eac : ElT Try.prog 56 67 3 24 := elT_of (by kernel_rfl)
theorem act_ne (x y : Ac) (p q : Operand) (w : World) : (do eqGuard .neq 67 p q (aval x) (aval y); binOp .neq 67 (aval x) (aval y)).run Try.prog w = .ok (.bool (!decide (x = y))) w := by
  show (do eqGuard .neq 67 p q (.agg #[.int .u8 x.k, .int .i64 x.c, .int .i64 x.p]) (.agg #[.int .u8 y.k, .int .i64 y.c, .int .i64 y.p]); binOp .neq 67 (.agg #[.int .u8 x.k, .int .i64 x.c, .int .i64 x.p]) (.agg #[.int .u8 y.k, .int .i64 y.c, .int .i64 y.p])).run Try.prog w = _
  rw [Sem.run_bind, run_eqGuard_agg w _ _ _ _ _ _ (by kernel_rfl)]
  show (binOp .neq 67 _ _).run Try.prog w = _
  rw [run_neq_struct, act_eqIn]
  rfl
theorem acell_len (x : Ac) : (acell x).length = 3 := rfl
theorem own_act {w : World} {ok : Nat → Prop} {A : Option Addr} {c i l : Nat} {rs : List Ac} {x : Ac} (h : Own w 67 3 ok A l c (rws acell rs)) (hx : rs[i]? = some x) : ∃ t, A = some t ∧ w.cell? (t.add (i * 3)) = some (.int .u8 x.k) ∧ w.cell? ((t.add (i * 3)).add 1) = some (.int .i64 x.c) ∧ w.cell? ((t.add (i * 3)).add 2) = some (.int .i64 x.p) := by
  have q : ∀ j (v : Value), j < 3 → (acell x)[j]? = some v → ∃ t, A = some t ∧ w.cell? ((t.add (i * 3)).add j) = some v := fun j v hj hv => by
    have e := rws_get acell_len hx (j := j) hj
    obtain ⟨t, ht, _, hc⟩ := h.rd.at (e.trans hv)
    exact ⟨t, ht, by rw [add_add]; exact hc⟩
  obtain ⟨t, ht, c0⟩ := q 0 _ (by decide) rfl
  obtain ⟨t1, ht1, c1⟩ := q 1 _ (by decide) rfl
  obtain ⟨t2, ht2, c2⟩ := q 2 _ (by decide) rfl
  rw [ht] at ht1 ht2
  cases ht1; cases ht2
  rw [add_zero'] at c0
  exact ⟨t, ht, c0, c1, c2⟩
/-! ### Whose blocks -/
def nxt (own : Nat → Nat) (n i : Nat) : Nat → Nat := fun k => if k < n then own k else i
theorem nxt_lt {own : Nat → Nat} {n i k : Nat} (h : k < n) : nxt own n i k = own k := if_pos h
theorem nxt_or {own : Nat → Nat} {n i k : Nat} (h : own k = i ∨ n ≤ k) : nxt own n i k = i := by
  unfold nxt
  split
  · exact h.elim id fun h => by omega
  · rfl
section
variable {w w' : World} {own : Nat → Nat} {i j : Nat}
theorem keepF (f : Fr (fun k => own k = i) w w') (hij : i ≠ j) : ∀ k, k < w.heap.size → nxt own w.heap.size i k = j → ¬ own k = i := fun k hk e e' => by rw [nxt_lt hk] at e; omega
theorem keepM : ∀ k, k < w.heap.size → own k = j → nxt own w.heap.size i k = j := fun k hk e => by rw [nxt_lt hk]; exact e
theorem Snd.keep {b told : Nat} {tells : Bool} {data : Bs} (h : Snd w (fun k => own k = j) b told tells data) (f : Fr (fun k => own k = i) w w') (hij : i ≠ j) : Snd w' (fun k => nxt own w.heap.size i k = j) b told tells data := (h.mono keepM).fr f (keepF f hij)
theorem RobAt.keep {b done hr tr : Nat} {rt : Bool} {act : Option Ac} (h : RobAt w (fun k => own k = j) b act done hr tr rt) (f : Fr (fun k => own k = i) w w') (hij : i ≠ j) : RobAt w' (fun k => nxt own w.heap.size i k = j) b act done hr tr rt := (h.mono keepM).fr f (keepF f hij)
theorem NetAt.keep {b : Nat} {L : List Bs} (h : NetAt w (fun k => own k = j) b L) (f : Fr (fun k => own k = i) w w') (hij : i ≠ j) : NetAt w' (fun k => nxt own w.heap.size i k = j) b L := (h.mono keepM).fr f (keepF f hij)
theorem OwnKeep {e sz l c : Nat} {A : Option Addr} {xs : List Value} (h : Own w e sz (fun k => own k = j) A l c xs) (f : Fr (fun k => own k = i) w w') (hij : i ≠ j) : Own w' e sz (fun k => nxt own w.heap.size i k = j) A l c xs := (h.mono keepM).fr f (keepF f hij)
theorem RdKeep {A : Option Addr} {xs : List Value} (h : Rd w (fun k => own k = j) A xs) (f : Fr (fun k => own k = i) w w') (hij : i ≠ j) : Rd w' (fun k => nxt own w.heap.size i k = j) A xs := (h.mono keepM).fr f (keepF f hij)
theorem BlkKeep {b : Nat} {t : TypeId} {vs : List Value} (h : own b = j ∧ Blk w b t vs) (f : Fr (fun k => own k = i) w w') (hij : i ≠ j) : nxt own w.heap.size i b = j ∧ Blk w' b t vs := ⟨keepM b h.2.lt h.1, h.2.fr f (by rw [h.1]; exact fun e => hij e.symm)⟩
theorem FrNo (f : Fr none1 w w') (i : Nat) : Fr (fun k => own k = i) w w' := f.mono fun _ _ h => h.elim
theorem FrOne {b : Nat} (f : Fr (fun k => k = b) w w') (h : own b = i) : Fr (fun k => own k = i) w w' := f.mono fun k _ e => by have e : k = b := e; subst e; exact h
end
/-! ### What is told and done -/
structure TAd where
  rb : Nat
  sb : Nat
  hb : Nat
  tb : Nat
  fb : Nat
  vr : Nat
  vs : Nat
  vh : Nat
  vt : Nat
  vf : Nat
structure TPs where
  T : List Ac
  d : Nat
  dn : Nat
  hr : Nat
  act : Option Ac
  tr : Nat
  rt : Bool
  ts : Nat
  st : Bool
  sd : Bs
  hh : Nat
  Lt : List Bs
  Lf : List Bs
def nN (b : Bool) : Nat := if b then 1 else 0
def LtOk (T : List Ac) (y : Bs) : Prop := ∃ p, Pok p ∧ y = layB p ∧ (p.hd = false → ∃ a, 1 ≤ p.n ∧ T[p.n - 1]? = some a ∧ p.data = pk (ab a))
def LfOk (d : Nat) (y : Bs) : Prop := ∃ p, Pok p ∧ y = layB p ∧ (p.hd = false → 1 ≤ p.n ∧ p.n ≤ d)
structure TInv (x : TPs) : Prop where
  fmay : ∀ a ∈ x.T, may a
  le1 : x.d ≤ x.hr
  le2 : x.hr ≤ x.T.length
  le3 : x.T.length ≤ x.d + 1
  act : (x.hr = x.d ∧ x.act = none) ∨ (x.hr = x.d + 1 ∧ (∃ a, x.T[x.d]? = some a ∧ x.act = some a) ∧ x.rt = false)
  tr : x.tr + nN x.rt = x.d
  ts : x.ts + nN x.st = x.T.length
  sd : x.st = true → ∃ a, x.T[x.T.length - 1]? = some a ∧ x.sd = pk (ab a)
  dn : x.dn = x.d
  hh1 : x.hh ≤ x.d
  hh2 : x.T.length ≤ x.hh + 1
  lt : ∀ y ∈ x.Lt, LtOk x.T y
  lf : ∀ y ∈ x.Lf, LfOk x.d y
  ltn : x.Lt.length ≤ 1024
  lfn : x.Lf.length ≤ 1024
theorem pkab_len (a : Ac) : (pk (ab a)).length = 2 := by rw [pk_length, ab_len]
theorem pkab_inj {a b : Ac} (ha : may a) (hb : may b) (h : pk (ab a) = pk (ab b)) : a = b := by
  have h1 := atake_lay ha
  have h2 := atake_lay hb
  rw [h, h2] at h1
  exact (Prod.mk.inj h1).1.symm
theorem LtOk.more {T : List Ac} {y : Bs} (h : LtOk T y) (a : Ac) : LtOk (T ++ [a]) y := by
  obtain ⟨p, h1, h2, h3⟩ := h
  refine ⟨p, h1, h2, fun hp => ?_⟩
  obtain ⟨b, h4, h5, h6⟩ := h3 hp
  exact ⟨b, h4, by rw [List.getElem?_append_left (List.getElem?_eq_some_iff.1 h5).1]; exact h5, h6⟩
theorem LfOk.more {d : Nat} {y : Bs} (h : LfOk d y) : LfOk (d + 1) y := by
  obtain ⟨p, h1, h2, h3⟩ := h
  exact ⟨p, h1, h2, fun hp => ⟨(h3 hp).1, by have := (h3 hp).2; omega⟩⟩
section
variable {x : TPs}
/-- A packet that comes to the robot. -/
theorem TInv.hear (I : TInv x) {p : Pk} (hp : Pok p) (hq : p.hd = false → ∃ a, 1 ≤ p.n ∧ x.T[p.n - 1]? = some a ∧ p.data = pk (ab a)) :
    (hFresh p x.hr = true → x.act = none ∧ ∃ a, may a ∧ p.data = pk (ab a)) ∧
    (hFresh p x.hr = true → ∀ a, may a → p.data = pk (ab a) → TInv { x with act := some a, hr := x.hr + 1, tr := if x.rt then x.tr + 1 else x.tr, rt := false }) := by
  have key : hFresh p x.hr = true → x.hr = x.d ∧ x.act = none ∧ ∃ a, x.T[x.d]? = some a ∧ p.data = pk (ab a) := fun hf => by
    unfold hFresh at hf
    simp at hf
    obtain ⟨a, h1, h2, h3⟩ := hq hf.1
    have hl := (List.getElem?_eq_some_iff.1 h2).1
    have e : p.n - 1 = x.hr := by omega
    rw [e] at h2 hl
    have := I.le3
    have := I.le1
    have e2 : x.hr = x.d := by omega
    rcases I.act with h | h
    · exact ⟨e2, h.2, a, by rw [← e2]; exact h2, h3⟩
    · omega
  refine ⟨fun hf => ?_, fun hf a ha hd => ?_⟩
  · obtain ⟨_, h1, a, h2, h3⟩ := key hf
    exact ⟨h1, a, I.fmay a (List.mem_of_getElem? h2), h3⟩
  · obtain ⟨h0, h1, b, h2, h3⟩ := key hf
    have e : a = b := pkab_inj ha (I.fmay b (List.mem_of_getElem? h2)) (hd.symm.trans h3)
    subst e
    have hl := (List.getElem?_eq_some_iff.1 h2).1
    refine ⟨I.fmay, ?_, ?_, I.le3, .inr ⟨?_, ⟨a, h2, rfl⟩, rfl⟩, ?_, I.ts, I.sd, I.dn, I.hh1, I.hh2, I.lt, I.lf, I.ltn, I.lfn⟩
    · dsimp only; omega
    · dsimp only; omega
    · dsimp only; omega
    · have := I.tr
      dsimp only
      unfold nN at this ⊢
      cases hrt : x.rt <;> rw [hrt] at this <;> simp at this ⊢ <;> omega
theorem TInv.heard (I : TInv x) (h : x.rt = true) : TInv { x with tr := x.tr + 1, rt := false } := by
  refine ⟨I.fmay, I.le1, I.le2, I.le3, ?_, ?_, I.ts, I.sd, I.dn, I.hh1, I.hh2, I.lt, I.lf, I.ltn, I.lfn⟩
  · rcases I.act with h | ⟨h1, h2, h3⟩
    · exact .inl h
    · exact .inr ⟨h1, h2, rfl⟩
  · have := I.tr
    rw [h] at this
    exact this
theorem TInv.sheard (I : TInv x) (h : x.st = true) : TInv { x with ts := x.ts + 1, st := false, sd := [] } := by
  refine ⟨I.fmay, I.le1, I.le2, I.le3, I.act, I.tr, ?_, (fun h => by cases h), I.dn, I.hh1, I.hh2, I.lt, I.lf, I.ltn, I.lfn⟩
  have := I.ts
  rw [h] at this
  exact this
theorem TInv.hhear (I : TInv x) {p : Pk} (hq : p.hd = false → 1 ≤ p.n ∧ p.n ≤ x.d) : TInv { x with hh := if hFresh p x.hh then x.hh + 1 else x.hh } := by
  refine ⟨I.fmay, I.le1, I.le2, I.le3, I.act, I.tr, I.ts, I.sd, I.dn, ?_, ?_, I.lt, I.lf, I.ltn, I.lfn⟩
  · dsimp only
    split
    · rename_i hf
      unfold hFresh at hf
      simp at hf
      have := hq hf.1
      omega
    · exact I.hh1
  · have := I.hh2
    dsimp only
    split <;> omega
theorem TInv.setLt (I : TInv x) {L : List Bs} (h1 : ∀ y ∈ L, LtOk x.T y) (h2 : L.length ≤ 1024) : TInv { x with Lt := L } :=
  ⟨I.fmay, I.le1, I.le2, I.le3, I.act, I.tr, I.ts, I.sd, I.dn, I.hh1, I.hh2, h1, I.lf, h2, I.lfn⟩
theorem TInv.setLf (I : TInv x) {L : List Bs} (h1 : ∀ y ∈ L, LfOk x.d y) (h2 : L.length ≤ 1024) : TInv { x with Lf := L } :=
  ⟨I.fmay, I.le1, I.le2, I.le3, I.act, I.tr, I.ts, I.sd, I.dn, I.hh1, I.hh2, I.lt, h1, I.ltn, h2⟩
theorem TInv.step (I : TInv x) (h : x.act ≠ none) : TInv { x with act := none, d := x.d + 1, dn := x.dn + 1, rt := true } ∧ ∃ a, x.T[x.d]? = some a ∧ x.act = some a := by
  rcases I.act with h' | ⟨h1, ⟨a, h2, h3⟩, h4⟩
  · exact absurd h'.2 h
  · refine ⟨⟨I.fmay, ?_, I.le2, ?_, .inl ⟨h1, rfl⟩, ?_, I.ts, I.sd, ?_, ?_, I.hh2, I.lt, fun y hy => (I.lf y hy).more, I.ltn, I.lfn⟩, a, h2, h3⟩
    · dsimp only; omega
    · have := I.le3; dsimp only; omega
    · have := I.tr
      rw [h4] at this
      show x.tr + 1 = x.d + 1
      simp [nN] at this
      omega
    · have := I.dn; dsimp only; omega
    · have := I.hh1; dsimp only; omega
theorem TInv.tell (I : TInv x) {a : Ac} (ha : may a) (hh : x.hh = x.T.length) (hs : x.st = false) : TInv { x with T := x.T ++ [a], st := true, sd := pk (ab a) } := by
  have l1 := I.le1
  have l2 := I.le2
  have l3 := I.hh1
  have hl : (x.T ++ [a]).length = x.T.length + 1 := by simp
  refine ⟨fun b hb => ?_, I.le1, ?_, ?_, ?_, I.tr, ?_, fun _ => ⟨a, ?_, rfl⟩, I.dn, I.hh1, ?_, fun y hy => (I.lt y hy).more a, I.lf, I.ltn, I.lfn⟩
  · rcases List.mem_append.1 hb with h | h
    · exact I.fmay b h
    · rw [List.mem_singleton] at h; subst h; exact ha
  · dsimp only; omega
  · dsimp only; omega
  · rcases I.act with h | ⟨h1, ⟨b, h2, h3⟩, h4⟩
    · exact .inl h
    · have := (List.getElem?_eq_some_iff.1 h2).1; omega
  · have := I.ts
    rw [hs] at this
    dsimp only
    rw [hl]
    simp [nN] at this ⊢
    omega
  · dsimp only
    rw [hl, List.getElem?_append_right (by omega)]
    simp
  · dsimp only; omega
/-- What the robot tells; what is told to it; what was heard. -/
theorem TInv.rpk (I : TInv x) (h : x.rt = true) (hn : x.T.length ≤ 1000) : LfOk x.d (layB ⟨false, x.tr + 1, []⟩) := by
  have := I.tr
  have := I.le1
  have := I.le2
  rw [h] at *
  simp [nN] at *
  exact ⟨⟨false, x.tr + 1, []⟩, ⟨by dsimp only; omega, by simp, by simp⟩, rfl, fun _ => ⟨by dsimp only; omega, by dsimp only; omega⟩⟩
theorem TInv.spk (I : TInv x) (h : x.st = true) (hn : x.T.length ≤ 1000) : LtOk x.T (layB ⟨false, x.ts + 1, x.sd⟩) := by
  obtain ⟨a, h1, h2⟩ := I.sd h
  have := I.ts
  rw [h] at this
  simp [nN] at this
  refine ⟨⟨false, x.ts + 1, x.sd⟩, ⟨by dsimp only; omega, by dsimp only; rw [h2, pkab_len]; omega, by simp⟩, rfl, fun _ => ⟨a, by dsimp only; omega, ?_, h2⟩⟩
  dsimp only
  rw [this]; exact h1
theorem back_lt {T : List Ac} {p : Pk} {h : Nat} (hp : Pok p) (hl : 0 < (hBack p h).length) : LtOk T (hBack p h) := by
  unfold hBack at hl ⊢
  split at hl
  · simp at hl
  · rename_i hc
    rw [if_neg hc]
    exact ⟨⟨true, p.n, []⟩, ⟨hp.1, by simp, fun _ => rfl⟩, rfl, fun h => by cases h⟩
theorem back_lf {d : Nat} {p : Pk} {h : Nat} (hp : Pok p) (hl : 0 < (hBack p h).length) : LfOk d (hBack p h) := by
  unfold hBack at hl ⊢
  split at hl
  · simp at hl
  · rename_i hc
    rw [if_neg hc]
    exact ⟨⟨true, p.n, []⟩, ⟨hp.1, by simp, fun _ => rfl⟩, rfl, fun h => by cases h⟩
theorem LtOk.len {T : List Ac} {y : Bs} (h : LtOk T y) : y.length ≤ 300 := by obtain ⟨p, h1, rfl, _⟩ := h; exact (layB_len h1).2
theorem LfOk.len {d : Nat} {y : Bs} (h : LfOk d y) : y.length ≤ 300 := by obtain ⟨p, h1, rfl, _⟩ := h; exact (layB_len h1).2
end
/-! ### The heap -/
structure TX (i : Nat) (W w : World) (own : Nat → Nat) (a : TAd) (x : TPs) (tA : Option Addr) (tc : Nat) (dA : Option Addr) (dc : Nat) : Prop where
  rob : i ≠ 1 → RobAt w (fun k => own k = 1) a.rb x.act x.dn x.hr x.tr x.rt
  snd : i ≠ 2 → Snd w (fun k => own k = 2) a.sb x.ts x.st x.sd
  rcv : i ≠ 3 → own a.hb = 3 ∧ Rcv w a.hb x.hh
  too : i ≠ 4 → NetAt w (fun k => own k = 4) a.tb x.Lt
  frm : i ≠ 5 → NetAt w (fun k => own k = 5) a.fb x.Lf
  tld : i ≠ 6 → Own w 67 3 (fun k => own k = 6) tA x.T.length tc (rws acell x.T)
  dne : i ≠ 7 → Own w 67 3 (fun k => own k = 7) dA x.d dc (rws acell (x.T.take x.d))
  vr : own a.vr = 8 ∧ Blk w a.vr 46 [.pointer (some ⟨a.rb, 0, none⟩)]
  vs : own a.vs = 8 ∧ Blk w a.vs 49 [.pointer (some ⟨a.sb, 0, none⟩)]
  vh : own a.vh = 8 ∧ Blk w a.vh 52 [.pointer (some ⟨a.hb, 0, none⟩)]
  vt : own a.vt = 8 ∧ Blk w a.vt 54 [.pointer (some ⟨a.tb, 0, none⟩)]
  vf : own a.vf = 8 ∧ Blk w a.vf 54 [.pointer (some ⟨a.fb, 0, none⟩)]
  low : ∀ k, k < W.heap.size → own k = 9
  bel : Bel W.heap.size W w
section
variable {W w w' : World} {own : Nat → Nat} {a : TAd} {x : TPs} {tA dA : Option Addr} {tc dc i : Nat}
theorem TX.go (h : TX 0 W w own a x tA tc dA dc) (hi : i < 8) (f : Fr (fun k => own k = i) w w') : TX i W w' (nxt own w.heap.size i) a x tA tc dA dc := by
  have hb := h.bel.size
  exact ⟨fun e => (h.rob (by decide)).keep f e, fun e => (h.snd (by decide)).keep f e, fun e => BlkKeep (h.rcv (by decide)) f e, fun e => (h.too (by decide)).keep f e, fun e => (h.frm (by decide)).keep f e, fun e => OwnKeep (h.tld (by decide)) f e, fun e => OwnKeep (h.dne (by decide)) f e,
    BlkKeep h.vr f (by omega), BlkKeep h.vs f (by omega), BlkKeep h.vh f (by omega), BlkKeep h.vt f (by omega), BlkKeep h.vf f (by omega), fun k hk => by rw [nxt_lt (by omega)]; exact h.low k hk, h.bel.trans' (f.mono fun k _ e => by
      have e : own k = i := e
      show W.heap.size ≤ k
      have := h.low k
      omega)⟩
theorem TX.fr0 (h : TX 0 W w own a x tA tc dA dc) (f : Fr none1 w w') : TX 0 W w' (nxt own w.heap.size 0) a x tA tc dA dc := h.go (by decide) (FrNo f 0)
theorem TX.setRob (h : TX 1 W w own a x tA tc dA dc) {act : Option Ac} {dn hr tr : Nat} {rt : Bool} (r : RobAt w (fun k => own k = 1) a.rb act dn hr tr rt) : TX 0 W w own a { x with act := act, dn := dn, hr := hr, tr := tr, rt := rt } tA tc dA dc :=
  ⟨fun _ => r, fun _ => h.snd (by decide), fun _ => h.rcv (by decide), fun _ => h.too (by decide), fun _ => h.frm (by decide), fun _ => h.tld (by decide), fun _ => h.dne (by decide), h.vr, h.vs, h.vh, h.vt, h.vf, h.low, h.bel⟩
theorem TX.setSnd (h : TX 2 W w own a x tA tc dA dc) {ts : Nat} {st : Bool} {sd : Bs} (r : Snd w (fun k => own k = 2) a.sb ts st sd) : TX 0 W w own a { x with ts := ts, st := st, sd := sd } tA tc dA dc :=
  ⟨fun _ => h.rob (by decide), fun _ => r, fun _ => h.rcv (by decide), fun _ => h.too (by decide), fun _ => h.frm (by decide), fun _ => h.tld (by decide), fun _ => h.dne (by decide), h.vr, h.vs, h.vh, h.vt, h.vf, h.low, h.bel⟩
theorem TX.setRcv (h : TX 3 W w own a x tA tc dA dc) {hh : Nat} (r : own a.hb = 3 ∧ Rcv w a.hb hh) : TX 0 W w own a { x with hh := hh } tA tc dA dc :=
  ⟨fun _ => h.rob (by decide), fun _ => h.snd (by decide), fun _ => r, fun _ => h.too (by decide), fun _ => h.frm (by decide), fun _ => h.tld (by decide), fun _ => h.dne (by decide), h.vr, h.vs, h.vh, h.vt, h.vf, h.low, h.bel⟩
theorem TX.setTo (h : TX 4 W w own a x tA tc dA dc) {L : List Bs} (r : NetAt w (fun k => own k = 4) a.tb L) : TX 0 W w own a { x with Lt := L } tA tc dA dc :=
  ⟨fun _ => h.rob (by decide), fun _ => h.snd (by decide), fun _ => h.rcv (by decide), fun _ => r, fun _ => h.frm (by decide), fun _ => h.tld (by decide), fun _ => h.dne (by decide), h.vr, h.vs, h.vh, h.vt, h.vf, h.low, h.bel⟩
theorem TX.setFrom (h : TX 5 W w own a x tA tc dA dc) {L : List Bs} (r : NetAt w (fun k => own k = 5) a.fb L) : TX 0 W w own a { x with Lf := L } tA tc dA dc :=
  ⟨fun _ => h.rob (by decide), fun _ => h.snd (by decide), fun _ => h.rcv (by decide), fun _ => h.too (by decide), fun _ => r, fun _ => h.tld (by decide), fun _ => h.dne (by decide), h.vr, h.vs, h.vh, h.vt, h.vf, h.low, h.bel⟩
/-- One act more in a row. -/
theorem act_app {j : Nat} {A : Option Addr} {l c : Nat} {xs : List Ac} (h : Own w 67 3 (fun k => own k = j) A l c (rws acell xs)) (z : Ac) (hl : l ≤ 1000) :
    ∃ A' c' w', (Builtin.append_ #[56, 56] 56 ⟨[.slice A l c, .slice (some ⟨w.heap.size, 0, none⟩) 1 1]⟩).run Try.prog (w.alloc (.cells ⟨[.int .u8 z.k, .int .i64 z.c, .int .i64 z.p]⟩ 67)) = .ok (.slice A' (l + 1) c') w' ∧
      Own w' 67 3 (fun k => nxt own w.heap.size j k = j) A' (l + 1) c' (rws acell (xs ++ [z])) ∧ Fr (fun k => own k = j) w w' := by
  have fl : Fr none1 w (w.alloc (.cells ⟨acell z⟩ 67)) := Fr.alloc _ _
  have lit := Own.lit w 67 3 1 (acell z) rfl (by simp [maxLen])
  have h' := (h.mono (ok' := fun k => own k = j ∧ k < w.heap.size) fun k hk e => ⟨e, hk⟩).fr fl fun _ _ _ h => h
  obtain ⟨A9, c9, w9, r9, o9, f9, _⟩ := run_append (ty := 56) (m := 1) (c2 := 1) Eac h' rfl lit.rd (fun v hv => by
    simp only [acell, List.mem_cons, List.not_mem_nil, or_false] at hv
    rcases hv with rfl | rfl | rfl <;> rfl) (by omega) (by simp only [maxLen]; omega)
  have hs := fl.size
  refine ⟨A9, c9, w9, r9, ?_, (fl.mono fun _ _ h => h.elim).trans' (f9.mono fun k _ ⟨q, hq, e⟩ => e ▸ (h'.has q hq).1.1)⟩
  rw [rws_append, rws_one]
  exact o9.mono fun k _ hk => nxt_or (hk.imp (fun h => h.1) fun h => Nat.le_trans hs h)
theorem TX.tell (h : TX 0 W w own a x tA tc dA dc) (z : Ac) (hl : x.T.length ≤ 999) (hd : x.d ≤ x.T.length) :
    ∃ A' c' w', (Builtin.append_ #[56, 56] 56 ⟨[.slice tA x.T.length tc, .slice (some ⟨w.heap.size, 0, none⟩) 1 1]⟩).run Try.prog (w.alloc (.cells ⟨[.int .u8 z.k, .int .i64 z.c, .int .i64 z.p]⟩ 67)) = .ok (.slice A' (x.T.length + 1) c') w' ∧
      TX 0 W w' (nxt own w.heap.size 6) a { x with T := x.T ++ [z] } A' c' dA dc := by
  obtain ⟨A', c', w', r, o, f⟩ := act_app (h.tld (by decide)) z (by omega)
  have k := h.go (by decide) f
  have el : (x.T ++ [z]).length = x.T.length + 1 := by simp
  refine ⟨A', c', w', r, fun _ => k.rob (by decide), fun _ => k.snd (by decide), fun _ => k.rcv (by decide), fun _ => k.too (by decide), fun _ => k.frm (by decide), fun _ => ?_, fun _ => ?_, k.vr, k.vs, k.vh, k.vt, k.vf, k.low, k.bel⟩
  · dsimp only
    rw [el]; exact o
  · dsimp only
    rw [List.take_append_of_le_length hd]
    exact k.dne (by decide)
theorem TX.did (h : TX 0 W w own a x tA tc dA dc) {z : Ac} (hz : x.T[x.d]? = some z) (hl : x.d ≤ 999) :
    ∃ A' c' w', (Builtin.append_ #[56, 56] 56 ⟨[.slice dA x.d dc, .slice (some ⟨w.heap.size, 0, none⟩) 1 1]⟩).run Try.prog (w.alloc (.cells ⟨[.int .u8 z.k, .int .i64 z.c, .int .i64 z.p]⟩ 67)) = .ok (.slice A' (x.d + 1) c') w' ∧
      TX 0 W w' (nxt own w.heap.size 7) a { x with d := x.d + 1 } tA tc A' c' := by
  obtain ⟨A', c', w', r, o, f⟩ := act_app (h.dne (by decide)) z (by omega)
  have k := h.go (by decide) f
  refine ⟨A', c', w', r, fun _ => k.rob (by decide), fun _ => k.snd (by decide), fun _ => k.rcv (by decide), fun _ => k.too (by decide), fun _ => k.frm (by decide), fun _ => k.tld (by decide), fun _ => ?_, k.vr, k.vs, k.vh, k.vt, k.vf, k.low, k.bel⟩
  dsimp only
  rw [List.take_add_one, hz]
  exact o
end
end Go.Proofs
