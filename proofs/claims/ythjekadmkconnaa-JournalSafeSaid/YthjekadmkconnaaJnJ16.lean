/- Laws of journals: whatever is played. -/
import Derived.Test.YthjekadmkconnaaJnR16
set_option linter.unusedVariables false
namespace Go.Proofs
open Go Go.Eng
/-- The program's journal and the reference's, side by side. -/
def TwoK (K : Nat → Prop) (B : Nat) (w : World) (d r j q : Nat) (D : Dsk) (n : Nat) (D2 : Dsk) (n2 : Nat) : Prop := JnK K B w j d D n ∧ RefD w r D2 ∧ RJ w q r n2 ∧ K r ∧ K q ∧ B ≤ q
section
variable {K : Nat → Prop} {B : Nat} {w w' : World} {d r j q : Nat} {D D2 : Dsk} {n n2 : Nat}
theorem TwoK.fr0 (h : TwoK K B w d r j q D n D2 n2) (f : Fr none1 w w') : TwoK K B w' d r j q D n D2 n2 :=
  ⟨h.1.fr0 f, h.2.1.fr f fun h => h, Blk.fr h.2.2.1 f fun h => h, h.2.2.2⟩
theorem TwoK.prog (h : TwoK K B w d r j q D n D2 n2) {f : Nat} {args : List Value} {Q : Value → Prop} {D' : Dsk} {n' : Nat} (hc : JnK K B w j d D n → Ret Try.prog f args w fun v w' => Q v ∧ JnK K B w' j d D' n' ∧ Fr (offK K B) w w') :
    Ret Try.prog f args w fun v w' => Q v ∧ TwoK K B w' d r j q D' n' D2 n2 ∧ Fr (offK K B) w w' :=
  (hc h.1).imp fun v w' ⟨a, b, f⟩ => ⟨a, ⟨b, h.2.1.fr f fun hk => hk.2 h.2.2.2.1, Blk.fr h.2.2.1 f fun hk => hk.2 h.2.2.2.2.1, h.2.2.2⟩, f⟩
theorem TwoK.ref (h : TwoK K B w d r j q D n D2 n2) {f : Nat} {args : List Value} {Q : Value → Prop} {D' : Dsk} {n' : Nat} (hc : RefD w r D2 → RJ w q r n2 → Ret Try.prog f args w fun v w' => Q v ∧ (RefD w' r D' ∧ RJ w' q r n') ∧ Fr (toRQ r q) w w') :
    Ret Try.prog f args w fun v w' => Q v ∧ TwoK K B w' d r j q D n D' n' ∧ Fr (toRQ r q) w w' :=
  (hc h.2.1 h.2.2.1).imp fun v w' ⟨a, b, f⟩ => ⟨a, ⟨h.1.fr f fun k _ hk => by
    rcases hk with e | e
    · subst e; exact .inl h.2.2.2.1
    · subst e; exact .inl h.2.2.2.2.1, b.1, b.2, h.2.2.2⟩, f⟩
/-- A call upon the reference's disk alone. -/
theorem TwoK.rdisk (h : TwoK K B w d r j q D n D2 n2) {f : Nat} {args : List Value} {Q : Value → Prop} {D' : Dsk} (hc : RefD w r D2 → Ret Try.prog f args w fun v w' => Q v ∧ RefD w' r D' ∧ Fr (toD r) w w') :
    Ret Try.prog f args w fun v w' => Q v ∧ TwoK K B w' d r j q D n D' n2 ∧ Fr (toRQ r q) w w' :=
  h.ref fun h1 h2 => (hc h1).imp fun v w' ⟨a, b, f⟩ => ⟨a, ⟨b, Blk.fr h2 f (RefD.ne h1 h2)⟩, f.mono fun k _ e => .inl e⟩
theorem TwoK.disk (h : TwoK K B w d r j q D n D2 n2) {f : Nat} {args : List Value} {Q : Value → Prop} {D' : Dsk} (hc : DkK (fun k => K k ∨ k = j) B w d D → Ret Try.prog f args w fun v w' => Q v ∧ DkK (fun k => K k ∨ k = j) B w' d D' ∧ Fr (offK (fun k => K k ∨ k = j) B) w w') :
    Ret Try.prog f args w fun v w' => Q v ∧ TwoK K B w' d r j q D' n D2 n2 ∧ Fr (offK K B) w w' := h.prog fun h => h.disk hc
end
theorem apD_len (D : Dsk) (xs : Bs) : (apD D xs).bs.length ≤ D.bs.length + xs.length := by
  unfold apD
  split
  · simp
  · rw [(pw_bs D).1]; omega
theorem apD_ge (D : Dsk) (xs : Bs) : D.bs.length ≤ (apD D xs).bs.length ∧ (apE D xs = 0 → (apD D xs).bs.length = D.bs.length + xs.length) := by
  unfold apD
  split
  · simp
  · rename_i h; rw [(pw_bs D).1]; exact ⟨Nat.le_refl _, fun h2 => absurd h2 h⟩
theorem syD_bs (D : Dsk) : (syD D).bs = D.bs := by
  unfold syD
  split
  · exact (pw_bs D).1
  · exact (pw_bs D).1
theorem ctD_bs (D : Dsk) (n : Int) : (ctD D n).bs = D.bs := by unfold ctD; split <;> rfl
theorem ntD_len (D : Dsk) (xs : Bs) : D.bs.length ≤ (ntD D xs).bs.length ∧ (ntD D xs).bs.length ≤ D.bs.length + 1004 := by
  unfold ntD
  split
  · have h1 := apD_len D (framed xs)
    have h2 := (apD_ge D (framed xs)).1
    rw [framed_length] at h1
    omega
  · omega
theorem ntN_len (D : Dsk) (xs : Bs) {n : Nat} (h : n ≤ D.bs.length) : ntN D xs n ≤ (ntD D xs).bs.length := by
  have h0 := (ntD_len D xs).1
  unfold ntN
  split
  · rename_i he
    unfold ntE at he
    split at he
    · rename_i hl
      have h1 := (apD_ge D (framed xs)).2 he
      unfold ntD
      rw [if_pos hl, h1, framed_length]; omega
    · cases he
  · omega
theorem op_len (D : Dsk) : (opD D).bs.length ≤ D.bs.length ∧ (scanB D.bs).1.length ≤ (opD D).bs.length := by
  have h1 := (opD_bs D).1
  have h2 := frames_ge (scanB D.bs).1
  refine ⟨?_, by rw [h1]; exact h2⟩
  show (D.bs.take (scanB D.bs).2).length ≤ _
  rw [List.length_take]; omega
theorem cr_len (D : Dsk) (n : Int) : (crD D n).bs.length ≤ D.bs.length := by
  show (D.bs.take _).length ≤ _
  rw [List.length_take]; omega
section
variable {W : World} {A0 A : Option Addr} {c0 c l : Nat} {first : Bs} {al : List Act}
/-- Between two acts. -/
def Play (B : Nat) (w0 : World) (d r n1 : Nat) (s : (Option Addr) × (Option Addr) × (Int) × Unit) (w' : World) : Prop :=
  ∃ (K : Nat → Prop) (i j q n : Nat) (D : Dsk), s.1 = some ⟨j, 0, none⟩ ∧ s.2.1 = some ⟨q, 0, none⟩ ∧ s.2.2.1 = (i : Int) ∧ i ≤ n1 ∧ TwoK K B w' d r j q D n D n ∧ Bel B w0 w' ∧ D.bs.length ≤ 5000 + 10004 * i ∧ n ≤ D.bs.length
theorem plays_k6 {B : Nat} {w0 w : World} {d r j q n n1 i : Nat} {D : Dsk} {K : Nat → Prop} {t70_a : Option Addr} {t70_c : Nat} {W : World} (h : TwoK K B w d r j q D n D n) (hi : i < n1) (hn1 : n1 ≤ 60) (g : Bel B w0 w) (hl : D.bs.length ≤ 5000 + 10004 * (i + 1)) (hn : n ≤ D.bs.length) {P : Value → World → Prop} {M : Nat} (hM : n1 - (i + 1) < M) :
    S7_k6 true (some ⟨d, 0, none⟩) (some ⟨r, 0, none⟩) (some ⟨j, 0, none⟩) (some ⟨q, 0, none⟩) t70_a n1 t70_c (n1 : Int) (i : Int) w P (fun s' w'' => Play B w0 d r n1 s' w'' ∧ n1 - s'.2.2.1.toNat < M) := by
  have next : ∀ {w'}, TwoK K B w' d r j q D n D n → Bel B w0 w' → S7_k7 true (some ⟨d, 0, none⟩) (some ⟨r, 0, none⟩) (some ⟨j, 0, none⟩) (some ⟨q, 0, none⟩) t70_a n1 t70_c (n1 : Int) (i : Int) false w' P (fun s' w'' => Play B w0 d r n1 s' w'' ∧ n1 - s'.2.2.1.toNat < M) := by
    intro w' h' g'
    refine cF rfl ?_
    rw [IntWalk.i64_in _ (by omega)]
    exact ⟨⟨K, i + 1, j, q, n, D, rfl, rfl, rfl, by omega, h', g', hl, hn⟩, by dsimp only; omega⟩
  refine (read_ok h.1.2.1.1).use ?_
  rintro v w1 ⟨A1, c1, rfl, o1, f1⟩
  have h1 := h.fr0 f1
  refine ⟨_, _, _, _, rfl, ?_⟩
  refine (ref_read h1.2.1).use ?_
  rintro v w1 ⟨rfl, rfl⟩
  refine ⟨_, _, rfl, ?_⟩
  have fd : Fr none1 w1 w1.drew := Fr.drew w1
  have h2 := h1.fr0 fd
  have o2 := o1.fr fd fun _ _ _ h => h
  have g2 := g.trans' (f1.bel0.trans' fd.bel0)
  refine ⟨_, w1.drew, run_toString Uby Uu8 Ustr rfl o2.rd, cF (by simp) (cF (by simp) ⟨_, rfl, ?_, ?_⟩)⟩
  · refine (jlen_ok h2.1).use ?_
    rintro v w3 ⟨rfl, rfl⟩
    refine ⟨_, rfl, _, by rw [add_g]; exact (Blk.cell h2.2.2.1 1).trans rfl, cF (by simp) ⟨_, rfl, ?_, ?_⟩⟩
    · refine (safe_ok h2.1.2.1.1).use ?_
      rintro v w3 ⟨rfl, hw3⟩
      refine ⟨_, rfl, _, by rw [hw3, add_g]; exact (Blk.cell h2.2.1.1 1).trans rfl, ?_⟩
      rw [hw3, decide_eq_true rfl]
      exact next h2 g2
    · refine ⟨_, by rw [add_g]; exact (Blk.cell h2.2.1.1 1).trans rfl, ?_⟩
      refine (safe_ok h2.1.2.1.1).use ?_
      rintro v w3 ⟨rfl, hw3⟩
      refine ⟨_, rfl, ?_⟩
      rw [hw3, decide_eq_true rfl]
      exact next h2 g2
  · refine ⟨_, by rw [add_g]; exact (Blk.cell h2.2.2.1 1).trans rfl, ?_⟩
    refine (jlen_ok h2.1).use ?_
    rintro v w3 ⟨rfl, rfl⟩
    refine ⟨_, rfl, cF (by simp) ⟨_, rfl, ?_, ?_⟩⟩
    · refine (safe_ok h2.1.2.1.1).use ?_
      rintro v w3 ⟨rfl, hw3⟩
      refine ⟨_, rfl, _, by rw [hw3, add_g]; exact (Blk.cell h2.2.1.1 1).trans rfl, ?_⟩
      rw [hw3, decide_eq_true rfl]
      exact next h2 g2
    · refine ⟨_, by rw [add_g]; exact (Blk.cell h2.2.1.1 1).trans rfl, ?_⟩
      refine (safe_ok h2.1.2.1.1).use ?_
      rintro v w3 ⟨rfl, hw3⟩
      refine ⟨_, rfl, ?_⟩
      rw [hw3, decide_eq_true rfl]
      exact next h2 g2
/-- The reference's journal is opened, beside the program's. -/
theorem both_open {K : Nat → Prop} {B : Nat} {w : World} {d r j n lo hi c : Nat} {D D' : Dsk} {A : Option Addr} {xss : List Bs} (h : JnK K B w j d D' n) (hf : Found w lo hi A c xss) (hr : RefD w r D) (hK : K r) (hrl : r < lo) (hBr : B ≤ r) (hL : Live D) (hsm : D.bs.length ≤ 1000000) :
    Ret Try.prog 24 [.pointer (some ⟨r, 0, none⟩)] w fun v w' => ∃ (q : Nat) (A2 : Option Addr) (c2 : Nat) (K2 : Nat → Prop), v = .tuple ⟨[.pointer (some ⟨q, 0, none⟩), .slice A2 (scanB D.bs).1.length c2, .int .i64 0]⟩ ∧
      RS w' A2 (scanB D.bs).1 ∧ RS w' A xss ∧ TwoK K2 B w' d r j q D' n (opD D) (scanB D.bs).1.length ∧ Bel B w w' :=
  (fopen_j hr hL hsm).imp fun v w' ⟨q, A2, c2, h1, h2, h3, h4, f, h5, h6⟩ => ⟨q, A2, c2, _, h1, h2, (hf.fr f fun k _ hk e => by have e : k = r := e; omega).rs,
    ⟨h.grow f fun k _ e => by have e : k = r := e; subst e; exact .inl hK, h3, h4, .inl hK, .inr ⟨h5, h6⟩, Nat.le_trans h.2.1.2.2 h5⟩, f.bel fun k e => by have e : k = r := e; omega⟩
theorem journalPlays_ok (h0 : Rd W (fun k => k < W.heap.size) A0 (bvs first)) (h : RowAt W.heap.size 3 (ActQ W W.heap.size) A al) (hl : al.length = l) (hc : l ≤ c) : Ret Try.prog 7 [.slice A0 first.length c0, .slice A l c] W (Done W) := by
  apply S7_calls
  refine (shown_ok W).use ?_
  rintro v w1 ⟨rfl, f1⟩
  refine ⟨_, rfl, ?_⟩
  refine (DkK.new (K := fun _ => False) (B := W.heap.size) f1.size (fun _ h => h.elim)).use ?_
  rintro v w2 ⟨rfl, h2, f2⟩
  have hd : W.heap.size ≤ w1.heap.size := f1.size
  have hdlt := h2.1.lt
  generalize w1.heap.size = d at h2 hd hdlt ⊢
  refine ⟨_, rfl, ?_⟩
  refine (ref_new w2).use ?_
  rintro v w3 ⟨rfl, hr3, f3⟩
  have h3 := h2.grow f3 fun _ _ h => h.elim
  have hrlt := hr3.1.lt
  have hBr : W.heap.size ≤ w2.heap.size := by omega
  generalize hr : w2.heap.size = r at hr3 hrlt hBr ⊢
  have g3 : Bel W.heap.size W w3 := f1.bel0.trans' (f2.bel0.trans' f3.bel0)
  refine ⟨_, rfl, cD (fun _ => ⟨rfl, g3.top⟩) (fun hl0 => ?_)⟩
  have hf0 : first.length ≤ 5000 := by omega
  rw [hr] at h3
  generalize hKe : (fun k => False ∨ (r ≤ k ∧ k < w3.heap.size)) = K at h3
  have hKr : K r := by rw [← hKe]; exact .inr ⟨Nat.le_refl _, hrlt⟩
  -- the first bytes
  have d3 := h0.fr g3 fun k _ hk h => by have : W.heap.size ≤ k := h; omega
  refine (h3.append (c2 := c0) (xs := first) (fun w' f => d3.fr f fun k _ hk e => by have e : k = d := e; omega)).use ?_
  rintro v w4 ⟨rfl, h4, f4⟩
  have hap := (show Live ⟨[], 0, false, -1⟩ from ⟨rfl, rfl⟩).append (xs := first) (by simp only [List.length_nil]; omega)
  rw [hap.2] at h4
  simp only [List.nil_append] at h4
  have hr4 := hr3.fr f4 fun hk => hk.2 hKr
  have g4 := g3.trans' (offK_bel f4)
  have d4 := d3.fr f4 fun k _ hk ho => by have := ho.1; omega
  refine ⟨_, rfl, _, w4, run_toString Uby Uu8 Ustr rfl d4, ?_⟩
  refine (ref_append hr4 first (by omega)).use ?_
  rintro v w5 ⟨rfl, hr5, f5⟩
  rw [hap.2] at hr5
  simp only [List.nil_append] at hr5
  have h5 := h4.fr f5 fun k _ e => by have e : k = r := e; subst e; exact .inl hKr
  have g5 := g4.trans' (f5.bel fun k e => by have e : k = r := e; omega)
  refine ⟨_, rfl, ?_⟩
  refine (open_ok h5 ⟨rfl, rfl⟩ (by simp only; omega)).use ?_
  rintro v w6 ⟨j, hi, A6, c6, rfl, fo6, h6, f6, hi1, hi2⟩
  have hr6 := hr5.fr f6 fun hk => hk.2 hKr
  have hr5lt := hr5.1.lt
  have g6 := g5.trans' (offK_bel f6)
  refine ⟨_, _, _, _, _, rfl, ?_⟩
  refine (both_open h6 fo6 hr6 (.inl hKr) hr5lt hBr ⟨rfl, rfl⟩ (by simp only; omega)).use ?_
  rintro v w7 ⟨q, A7, c7, K7, rfl, rs7, rs6, t7, g67⟩
  simp only at rs7 rs6
  have g7 := g6.trans' g67
  have hlen := op_len ⟨first, 0, false, -1⟩
  simp only at hlen
  refine ⟨_, _, _, _, _, rfl, cF rfl (cF rfl (cF rfl ?_))⟩
  refine (same_ok (c1 := c6) (c2 := c7) rs6 rs7 (by simp only [maxLen]; omega)).use ?_
  rintro v w8 ⟨rfl, f8⟩
  rw [decide_eq_true rfl]
  have t8 := t7.fr0 f8
  have g8 := g7.trans' f8.bel0
  refine ⟨_, rfl, cF rfl ?_⟩
  have hrow8 : RowAt W.heap.size 3 (ActQ w8 W.heap.size) A al := fun j x hx => by
    obtain ⟨a, ha, hb, hq⟩ := h j x hx
    exact ⟨a, ha, hb, hq.fr (Nat.le_refl _) (by rw [add_block]; exact hb) g8⟩
  refine (few_ok hrow8 hl hc).use ?_
  rintro v w8 ⟨rfl, n1, d1, bs, rfl, hbl, hn1, hrow, hsmall⟩
  refine ⟨_, _, _, rfl, ?_⟩
  refine ⟨fun s w' => Play W.heap.size w8 d r n1 s w', fun s _ => n1 - s.2.2.1.toNat, ⟨K7, 0, j, q, _, _, rfl, rfl, rfl, Nat.zero_le _, t8, Fr.refl _ _, by omega, hlen.2⟩, ?_⟩
  rintro J ⟨jj, qq, ii, ⟨⟩⟩ w9 ⟨K, i, j, q, n, D, ej, eq, ei, hi, t9, g9, hDl, hn⟩
  dsimp only at ej eq ei ⊢
  subst ej eq ei
  have gW9 := g8.trans' g9
  refine cD (fun hlt => ?_) (fun hlt => ⟨rfl, gW9.top⟩)
  have hi' : i < n1 := by have : (i : Int) < (n1 : Int) := hlt; omega
  have hx : bs[i]? = some bs[i] := List.getElem?_eq_getElem (by omega)
  obtain ⟨a, ha, hab, hq⟩ := hrow i _ hx
  obtain ⟨A1, d', q1, q2, q3, q4, q5, q6, q7, q8, _⟩ := hq.fr g8.size (by rw [add_block]; exact hab) g9
  have hsm := hsmall _ (List.mem_of_getElem? hx)
  refine ⟨a, ha, by omega, by omega, _, by rw [Int.toNat_natCast]; exact q1, _, _, _, by rw [Int.toNat_natCast]; exact q2, _, by rw [Int.toNat_natCast]; exact q3, ?_⟩
  obtain ⟨p1, p2, p3, p4, p5, p6, b10, f10⟩ := cp3 w9 41 (.int .u8 0) (.slice none 0 0) (.int .i64 0) (.int .u8 bs[i].1) (.slice A1 bs[i].2.1.length d') (.int .i64 bs[i].2.2)
  refine ⟨p1, p2, p3, p4, p5, p6, ?_⟩
  have hB9 : W.heap.size ≤ w9.heap.size := gW9.size
  have hpl := b10.lt
  generalize hw10 : World.setCell _ _ _ = w10 at b10 f10 hpl ⊢
  clear hw10 p1 p2 p3 p4 p5 p6
  have t10 : TwoK (fun k => K k ∨ (w9.heap.size ≤ k ∧ k < w10.heap.size)) W.heap.size w10 d r j q D n D n :=
    ⟨t9.1.grow f10 fun _ _ h => h.elim, t9.2.1.fr f10 fun h => h, Blk.fr t9.2.2.1 f10 fun h => h, .inl t9.2.2.2.1, .inl t9.2.2.2.2.1, t9.2.2.2.2.2⟩
  have hprq : ¬ toRQ r q w9.heap.size := fun e => by
    rcases e with e | e
    · have := t9.2.1.1.lt; omega
    · have := Blk.lt t9.2.2.1; omega
  generalize hKe : (fun k => K k ∨ (w9.heap.size ≤ k ∧ k < w10.heap.size)) = K' at t10
  have hKp : K' w9.heap.size := by rw [← hKe]; exact .inr ⟨Nat.le_refl _, hpl⟩
  clear hKe
  generalize w9.heap.size = p at b10 hprq hKp ⊢
  have g10 := g9.trans' f10.bel0
  have r10 := q4.fr f10 fun _ _ _ h => h
  generalize bs[i] = x at q5 q6 q7 q8 hsm b10 r10 ⊢
  have hM : n1 - (i + 1) < n1 - (i : Int).toNat := by omega
  have hqB : W.heap.size ≤ q := t10.2.2.2.2.2
  have rqB : ∀ {u u' : World}, Fr (toRQ r q) u u' → Bel W.heap.size u u' := fun f => f.bel fun k e => by
    rcases e with e | e
    · omega
    · omega
  have hq9 : x.2.2 ≤ 9223372036854775807 := q8
  refine ⟨x.1, (b10.cell 0).trans rfl, by decide, cD (fun k0 => ?_) (fun k0 => cD (fun k1 => ?_) (fun k1 => cD (fun k2 => ?_) (fun k2 => cD (fun k3 => ?_) (fun k3 => ?_))))⟩
  · -- a note
    have fd : Fr none1 w10 w10.drew := Fr.drew w10
    have t11 := t10.fr0 fd
    have b11 := b10.fr fd fun h => h
    have r11 := r10.fr fd fun _ _ _ h => h
    have g11 := g10.trans' fd.bel0
    generalize w10.drew = w11 at t11 b11 r11 g11 ⊢
    have hlen1 := ntD_len D x.2.1
    have hlen2 := ntN_len D x.2.1 hn
    refine ⟨A1, _, d', (b11.cell 1).trans rfl, ?_, ⟨A1, _, d', (b11.cell 1).trans rfl, ?_⟩⟩
    · refine (t11.prog (Q := fun v => v = _) fun h => note_ok h (c := d') r11 (by omega) (by omega)).use ?_
      rintro v w12 ⟨rfl, t12, f12⟩
      have b12 := b11.fr f12 fun hk => hk.2 hKp
      have r12 := r11.fr f12 fun k _ hk ho => by have := ho.1; omega
      refine ⟨_, rfl, A1, _, d', (b12.cell 1).trans rfl, ?_⟩
      refine (t12.ref (Q := fun v => v = _) fun h1 h2 => fnote_ok h1 h2 (c := d') r12 (by omega) (by omega)).use ?_
      rintro v w13 ⟨rfl, t13, f13⟩
      refine ⟨_, rfl, cF (by simp) ?_⟩
      exact plays_k6 (W := W) t13 hi' hn1 (g11.trans' ((offK_bel f12).trans' (rqB f13))) (by omega) hlen2 hM
    · refine (t11.prog (Q := fun v => v = _) fun h => note_ok h (c := d') r11 (by omega) (by omega)).use ?_
      rintro v w12 ⟨rfl, t12, f12⟩
      have r12 := r11.fr f12 fun k _ hk ho => by have := ho.1; omega
      refine ⟨_, rfl, ?_⟩
      refine (t12.ref (Q := fun v => v = _) fun h1 h2 => fnote_ok h1 h2 (c := d') r12 (by omega) (by omega)).use ?_
      rintro v w13 ⟨rfl, t13, f13⟩
      refine ⟨_, rfl, cF (by simp) ?_⟩
      exact plays_k6 (W := W) t13 hi' hn1 (g11.trans' ((offK_bel f12).trans' (rqB f13))) (by omega) hlen2 hM
  · refine (t10.prog (Q := fun v => v = _) fun h => jsync_ok h).use ?_
    rintro v w12 ⟨rfl, t12, f12⟩
    refine ⟨_, rfl, ?_⟩
    refine (t12.rdisk (Q := fun v => v = _) fun h => ref_sync h).use ?_
    rintro v w13 ⟨rfl, t13, f13⟩
    refine ⟨_, rfl, cF (by simp) ?_⟩
    exact plays_k6 (W := W) t13 hi' hn1 (g10.trans' ((offK_bel f12).trans' (rqB f13))) (by rw [syD_bs]; omega) (by rw [syD_bs]; exact hn) hM
  · refine ⟨_, (b10.cell 2).trans rfl, ?_⟩
    refine (t10.disk (Q := fun v => v = _) fun h => h.cut x.2.2 hq9).use ?_
    rintro v w12 ⟨rfl, t12, f12⟩
    have b12 := b10.fr f12 fun hk => hk.2 hKp
    refine ⟨rfl, _, (b12.cell 2).trans rfl, ?_⟩
    refine (t12.rdisk (Q := fun v => v = _) fun h => ref_cut h x.2.2 hq9).use ?_
    rintro v w13 ⟨rfl, t13, f13⟩
    exact ⟨rfl, plays_k6 (W := W) t13 hi' hn1 (g10.trans' ((offK_bel f12).trans' (rqB f13))) (by rw [ctD_bs]; omega) (by rw [ctD_bs]; exact hn) hM⟩
  · refine ⟨_, (b10.cell 2).trans rfl, ?_⟩
    refine (t10.disk (Q := fun v => v = _) fun h => h.crash x.2.2).use ?_
    rintro v w12 ⟨rfl, t12, f12⟩
    have b12 := b10.fr f12 fun hk => hk.2 hKp
    refine ⟨rfl, _, (b12.cell 2).trans rfl, ?_⟩
    refine (t12.rdisk (Q := fun v => v = _) fun h => ref_crash h x.2.2).use ?_
    rintro v w13 ⟨rfl, t13, f13⟩
    have hcl := cr_len D x.2.2
    have hol := op_len (crD D x.2.2)
    refine ⟨rfl, ?_⟩
    refine (open_ok t13.1.2.1 (live_crash D x.2.2) (by omega)).use ?_
    rintro v w14 ⟨j4, hi4, A4, c4, rfl, fo4, h4', f14, _, _⟩
    have hr14 := t13.2.1.fr f14 fun hk => hk.2 (.inl t13.2.2.2.1)
    refine ⟨_, _, _, _, _, rfl, ?_⟩
    refine (both_open h4' fo4 hr14 (.inl (.inl t13.2.2.2.1)) t13.2.1.1.lt hBr (live_crash D x.2.2) (by omega)).use ?_
    rintro v w15 ⟨q5', A5, c5, K5, rfl, rs5, rs4, t15, g45⟩
    refine ⟨_, _, _, _, _, rfl, cF rfl (cF rfl (cF rfl ?_))⟩
    refine (same_ok (c1 := c4) (c2 := c5) rs4 rs5 (by simp only [maxLen]; omega)).use ?_
    rintro v w16 ⟨rfl, f16⟩
    rw [decide_eq_true rfl]
    have g14 := g10.trans' ((offK_bel f12).trans' ((rqB f13).trans' ((offK_bel f14).trans' (g45.trans' f16.bel0))))
    exact ⟨_, rfl, cF rfl (plays_k6 (W := W) (t15.fr0 f16) hi' hn1 g14 (by omega) hol.2 hM)⟩
  · refine ⟨A1, _, d', (b10.cell 1).trans rfl, ?_⟩
    refine (t10.disk (Q := fun v => v = _) fun h => h.append (c2 := d') (xs := x.2.1) (fun w' f => r10.fr f fun k _ hk e => by have e : k = d := e; omega)).use ?_
    rintro v w12 ⟨rfl, t12, f12⟩
    have b12 := b10.fr f12 fun hk => hk.2 hKp
    have r12 := r10.fr f12 fun k _ hk ho => by have := ho.1; omega
    refine ⟨_, rfl, A1, _, d', (b12.cell 1).trans rfl, _, w12, run_toString Uby Uu8 Ustr rfl r12, ?_⟩
    refine (t12.rdisk (Q := fun v => v = _) fun h => ref_append h x.2.1 (by omega)).use ?_
    rintro v w13 ⟨rfl, t13, f13⟩
    have h1 := apD_len D x.2.1
    have h2 := apD_ge D x.2.1
    exact ⟨_, rfl, plays_k6 (W := W) t13 hi' hn1 (g10.trans' ((offK_bel f12).trans' (rqB f13))) (by omega) (by omega) hM⟩
end
end Go.Proofs
