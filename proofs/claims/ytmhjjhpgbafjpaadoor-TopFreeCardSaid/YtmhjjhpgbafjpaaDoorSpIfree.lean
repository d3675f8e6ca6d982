/- Ways through time: a search looks ahead. -/
import Derived.Test.YtmhjjhpgbafjpaaDoorSpHfree
import Derived.Test.YtmhjjhpgbafjpaaDoorSpPfree
set_option linter.unusedVariables false
set_option maxRecDepth 100000
namespace Go.Eng
open Go
section
variable {α : Type} {enc : α → List Value} {w : World} {P : Program} {t kt st et : TypeId} {sz m n : Nat} {ok : Nat → Prop} {cof : Nat → Int} {f : Int → List α}
theorem MR.lookAll (h : MR enc w P kt et sz m n ok cof f) (hk : P.underlying kt = some (.int .i64)) (ht : P.underlying t = some (.map kt st)) (hz : ∀ w, (zeroValue st).run P w = .ok (.slice none 0 0) w) {a : Int} (ha : IntKind.i64.min ≤ a ∧ a ≤ IntKind.i64.max) :
    ∃ A cp, (∀ w', Fr none1 w w' → (Instr.lookup t (.map (some m)) (.int .i64 a) false).run P w' = .ok (.slice A (f a).length cp) w') ∧ Own w et sz (fun k => ok k ∧ k ≠ m ∧ cof k = a) A (f a).length cp (rws enc (f a)) := by
  obtain ⟨h0, c, g, h1, h2⟩ := h
  obtain ⟨A, cp, h3, h4⟩ := h2 a
  exact ⟨A, cp, fun w' f' => by rw [(h1.fr f' fun h => h).lookup hk ht (hz w') ha, h3], h4⟩
end
end Go.Eng
namespace Go.Proofs
open Go Go.Eng
def nxt (own : Nat → Nat) (n i : Nat) : Nat → Nat := fun k => if k < n then own k else i
theorem nxt_lt {own : Nat → Nat} {n i k : Nat} (h : k < n) : nxt own n i k = own k := if_pos h
theorem nxt_or {own : Nat → Nat} {n i k : Nat} (h : own k = i ∨ n ≤ k) : nxt own n i k = i := by
  unfold nxt
  split
  · exact h.elim id fun h => by omega
  · rfl
section
variable {w w' : World} {own : Nat → Nat} {i j : Nat}
theorem keepF (f : Fr (fun k => own k = i) w w') (hij : i ≠ j) : ∀ k, k < w.heap.size → nxt own w.heap.size i k = j → ¬ own k = i := fun k hk e e' => by rw [nxt_lt hk] at e; omega
theorem keepM : ∀ k, k < w.heap.size → own k = j → nxt own w.heap.size i k = j := fun k hk e => by rw [nxt_lt hk]; exact e
theorem FrNo (f : Fr none1 w w') (i : Nat) : Fr (fun k => own k = i) w w' := f.mono fun _ _ h => h.elim
theorem BlkKeep {b : Nat} {t : TypeId} {vs : List Value} (h : own b = 0 ∧ Blk w b t vs) (f : Fr (fun k => own k = i) w w') (hi : i ≠ 0) : nxt own w.heap.size i b = 0 ∧ Blk w' b t vs := ⟨keepM b h.2.lt h.1, h.2.fr f (by rw [h.1]; exact fun e => hi e.symm)⟩
theorem BlkZ {b : Nat} {t : TypeId} {vs : List Value} (h : own b = 0 ∧ Blk w b t vs) (f : Fr none1 w w') : nxt own w.heap.size 0 b = 0 ∧ Blk w' b t vs := ⟨keepM b h.2.lt h.1, h.2.fr f fun h => h⟩
theorem BlkNew {b : Nat} {t : TypeId} {vs : List Value} (h : Blk w' b t vs) (hb : w.heap.size ≤ b) : nxt own w.heap.size 0 b = 0 ∧ Blk w' b t vs := ⟨nxt_or (.inr hb), h⟩
end
/-- What a search holds, under way. -/
structure RI (B : Nat) (w0 w : World) (own : Nat → Nat) (f : Fl) (s t m hb : Nat) (from_ start last : Int) (S : List En) (nx : Nat) (all : List Sy) (g : Int → List Sy) (A : Option Addr) (c n : Nat) (cof : Nat → Int) (nt : Nat) (cft : Nat → Int) (tf : Int → List Wn) : Prop where
  sr : Sr w (fun k => own k = 1) f s t m from_ start last
  mp : Mp w m n (fun k => own k = 2) cof g
  al : Own w 58 3 (fun k => own k = 3) A all.length c (rws ycell all)
  hp : HA w (fun k => own k = 4) hb S nx
  tb : Tab w (fun k => own k = 5) cft t nt tf
  lo : ∀ k, k < B → own k = 5
  ge : B ≤ w.heap.size
  bel : Bel B w0 w
section
variable {B : Nat} {w0 w w' : World} {own : Nat → Nat} {f : Fl} {s t m hb : Nat} {from_ start last : Int} {S S' : List En} {nx nx' : Nat} {all all' : List Sy} {g g' : Int → List Sy} {A A' : Option Addr} {c c' n n' : Nat} {cof cof' : Nat → Int} {nt : Nat} {cft : Nat → Int} {tf : Int → List Wn}
theorem RI.low (I : RI B w0 w own f s t m hb from_ start last S nx all g A c n cof nt cft tf) (i : Nat) : ∀ k, k < B → nxt own w.heap.size i k = 5 := fun k hk => by rw [nxt_lt (Nat.lt_of_lt_of_le hk I.ge)]; exact I.lo k hk
theorem RI.below (I : RI B w0 w own f s t m hb from_ start last S nx all g A c n cof nt cft tf) {i : Nat} (hf : Fr (fun k => own k = i) w w') (hi : i ≠ 5) : Bel B w0 w' := I.bel.trans' (hf.bel fun k e => Nat.le_of_not_lt fun hk => hi (e.symm.trans (I.lo k hk)))
theorem RI.z (I : RI B w0 w own f s t m hb from_ start last S nx all g A c n cof nt cft tf) (h : Fr none1 w w') : RI B w0 w' (nxt own w.heap.size 0) f s t m hb from_ start last S nx all g A c n cof nt cft tf := by
  have f0 : Fr (fun k => own k = 0) w w' := FrNo h 0
  exact ⟨(I.sr.mono keepM).fr f0 (keepF f0 (by decide)), (I.mp.mono keepM).fr f0 (keepF f0 (by decide)), (I.al.mono keepM).fr f0 (keepF f0 (by decide)), (I.hp.mono keepM).fr f0 (keepF f0 (by decide)), (I.tb.mono keepM).fr f0 (keepF f0 (by decide)), I.low 0, Nat.le_trans I.ge h.size, I.below f0 (by decide)⟩
theorem RI.heap (I : RI B w0 w own f s t m hb from_ start last S nx all g A c n cof nt cft tf) (h : Fr (fun k => own k = 4) w w') (q : HA w' (fun k => own k = 4 ∨ w.heap.size ≤ k) hb S' nx') : RI B w0 w' (nxt own w.heap.size 4) f s t m hb from_ start last S' nx' all g A c n cof nt cft tf :=
  ⟨(I.sr.mono keepM).fr h (keepF h (by decide)), (I.mp.mono keepM).fr h (keepF h (by decide)), (I.al.mono keepM).fr h (keepF h (by decide)), q.mono fun k _ e => nxt_or e, (I.tb.mono keepM).fr h (keepF h (by decide)), I.low 4, Nat.le_trans I.ge h.size, I.below h (by decide)⟩
theorem RI.more (I : RI B w0 w own f s t m hb from_ start last S nx all g A c n cof nt cft tf) (h : Fr (fun k => own k = 3) w w') (q : Own w' 58 3 (fun k => own k = 3 ∨ w.heap.size ≤ k) A' all'.length c' (rws ycell all')) : RI B w0 w' (nxt own w.heap.size 3) f s t m hb from_ start last S nx all' g A' c' n cof nt cft tf :=
  ⟨(I.sr.mono keepM).fr h (keepF h (by decide)), (I.mp.mono keepM).fr h (keepF h (by decide)), q.mono fun k _ e => nxt_or e, (I.hp.mono keepM).fr h (keepF h (by decide)), (I.tb.mono keepM).fr h (keepF h (by decide)), I.low 3, Nat.le_trans I.ge h.size, I.below h (by decide)⟩
theorem RI.note (I : RI B w0 w own f s t m hb from_ start last S nx all g A c n cof nt cft tf) (h : Fr (fun k => own k = 2) w w') (q : Mp w' m n' (fun k => own k = 2 ∨ w.heap.size ≤ k) cof' g') : RI B w0 w' (nxt own w.heap.size 2) f s t m hb from_ start last S nx all g' A c n' cof' nt cft tf :=
  ⟨(I.sr.mono keepM).fr h (keepF h (by decide)), q.mono fun k _ e => nxt_or e, (I.al.mono keepM).fr h (keepF h (by decide)), (I.hp.mono keepM).fr h (keepF h (by decide)), (I.tb.mono keepM).fr h (keepF h (by decide)), I.low 2, Nat.le_trans I.ge h.size, I.below h (by decide)⟩
/-- A pop, and the item is written anew. -/
theorem run_k2 (I : RI B w0 w own f s t m hb from_ start last S nx all g A c n cof nt cft tf) (hnx : nx ≤ 100000) {xb : Nat} {a b : Int} (hx : own xb = 0 ∧ Blk w xb 86 [.int .i64 a, .int .i64 b]) {R : Value → World → Prop} {B1 : (Option Addr × Nat × Nat) × (Addr) × (Bool) × Unit → World → Prop}
    (hB : ∀ w' own' xb', RI B w0 w' own' f s t m hb from_ start last S.tail nx all g A c n cof nt cft tf → (own' xb' = 0 ∧ Blk w' xb' 86 (it2 (hd S))) → B1 ((A, all.length, c), ⟨xb', 0, none⟩, !S.isEmpty, ()) w') :
    S17_k2 (some ⟨s, 0, none⟩) (some ⟨hb, 0, none⟩) A all.length c ⟨xb, 0, none⟩ w R B1 := by
  obtain ⟨p1, p2, p3, p4, b1, f1⟩ := cp2 w 86 (.int .i64 0) (.int .i64 0) (.int .i64 a) (.int .i64 b)
  have I1 := I.z f1
  have x1 := BlkNew (own := own) b1 (Nat.le_refl _)
  refine ⟨a, hx.2.cell 0, b, by rw [add_g]; exact hx.2.cell 1, p1, p2, p3, p4, ?_⟩
  generalize World.setCell _ _ _ = w1 at I1 x1 ⊢
  generalize nxt own w.heap.size 0 = own1 at I1 x1
  generalize w.heap.size = X at x1 ⊢
  refine (hpop_ok I1.hp hnx).use ?_
  rintro v w2 ⟨rfl, h2, f2⟩
  have I2 := I1.heap f2 (h2.mono fun k _ e => .inl e)
  have x2 := BlkKeep x1 f2 (by decide)
  generalize nxt own1 w1.heap.size 4 = own2 at I2 x2
  have c1 := x2.2.set 0 (.int .i64 (hd S).1)
  have c2 := c1.set 1 (.int .i64 (hd S).2)
  have fs : Fr (fun k => k = X) w2 ((w2.setCell ⟨X, 0, none⟩ (.int .i64 (hd S).1)).setCell ⟨X, 1, none⟩ (.int .i64 (hd S).2)) := (Fr.setCell (F := fun k => k = X) w2 (p := ⟨X, 0, none⟩) rfl _).trans' (Fr.setCell (F := fun k => k = X) _ (p := ⟨X, 1, none⟩) rfl _)
  refine ⟨_, _, _, rfl, x2.2.has 0 (by simp), x2.2.free 0, c1.has 1 (by simp), c1.free 1, ?_⟩
  have q : ∀ j, j ≠ 0 → ∀ k, k < w2.heap.size → own2 k = j → ¬ k = X := fun j hj k _ e e' => by subst e'; exact hj (e.symm.trans x2.1)
  exact hB _ own2 X ⟨I2.sr.fr fs (q 1 (by decide)), I2.mp.fr fs (q 2 (by decide)), I2.al.fr fs (q 3 (by decide)), I2.hp.fr fs (q 4 (by decide)), I2.tb.fr fs (q 5 (by decide)), I2.lo, Nat.le_trans I2.ge fs.size, I2.bel.trans' (fs.bel fun k e => Nat.le_of_not_lt fun hk => by have e : k = X := e; subst e; have := I2.lo k hk; rw [x2.1] at this; cases this)⟩ ⟨x2.1, c2⟩
/-- A stay is noted. -/
theorem run_k3 (I : RI B w0 w own f s t m hb from_ start last S nx all g A c n cof nt cft tf) {now : Sy} (hc : i64r now.c) (hl : (g now.c).length ≤ 1000) (hn : n ≤ 1000000) {xb nb : Nat} {a b : Int} (hx : own xb = 0 ∧ Blk w xb 86 [.int .i64 a, .int .i64 b]) (hnb : own nb = 0 ∧ Blk w nb 58 (ycell now)) {R : Value → World → Prop} {B1 : (Option Addr × Nat × Nat) × (Addr) × (Bool) × Unit → World → Prop}
    (hK : ∀ w' own' cof', RI B w0 w' own' f s t m hb from_ start last S nx all (updF g now.c (g now.c ++ [now])) A c (n + 1) cof' nt cft tf → (own' xb = 0 ∧ Blk w' xb 86 [.int .i64 a, .int .i64 b]) → (own' nb = 0 ∧ Blk w' nb 58 (ycell now)) → S17_k4 (some ⟨s, 0, none⟩) (some ⟨hb, 0, none⟩) A all.length c ⟨xb, 0, none⟩ ⟨nb, 0, none⟩ w' R B1) :
    S17_k3 (some ⟨s, 0, none⟩) (some ⟨hb, 0, none⟩) A all.length c ⟨xb, 0, none⟩ ⟨nb, 0, none⟩ w R B1 := by
  unfold S17_k3
  have I0 := I.z (Fr.drew w)
  have x0 := BlkZ hx (Fr.drew w)
  have n0 := BlkZ hnb (Fr.drew w)
  generalize w.drew = W0 at I0 x0 n0 ⊢
  generalize nxt own w.heap.size 0 = own0 at I0 x0 n0
  obtain ⟨A1, c1, L, o1⟩ := I0.mp.lookAll uInt uMs Zsl hc
  have fa : Fr none1 W0 (W0.alloc (.cells ⟨ycell now⟩ 58)) := Fr.alloc _ _
  obtain ⟨A2, c2, W2, r2, o2, f2⟩ := app_stay o1 now (by omega)
  have hA : ∀ k, ownAt A1 k → own0 k = 2 ∧ k ≠ m ∧ cof k = now.c := fun k ⟨a, ha, e⟩ => e ▸ (o1.has a ha).1
  obtain ⟨W3, r3, M3, f3⟩ := I0.mp.put uInt uMs (by simp only [maxLen]; omega) hc f2 (fun k _ h => hA k h) o2
  have f3' : Fr (fun k => own0 k = 2) W0 W3 := f3.mono fun k _ h => h.elim (fun h => (hA k h).1) fun e => by have e : k = m := e; rw [e]; exact I0.mp.1
  have f2' : Fr (fun k => own0 k = 2) W0 W2 := f2.mono fun k _ h => (hA k h).1
  have I3 := I0.note f3' M3
  have k4 := hK W3 _ _ I3 (BlkKeep x0 f3' (by decide)) (BlkKeep n0 f3' (by decide))
  have l0 := L W0 (Fr.refl _ _)
  have l1 := L _ fa
  obtain ⟨qA, qc, lA, lc, hb0⟩ := I0.sr.blk
  have hb1 := hb0.fr fa fun h => h
  have hb2 := hb0.fr f2' (by rw [I0.sr.1]; decide)
  have n1 := n0.2.fr fa fun h => h
  have n2 := n0.2.fr f2' (by rw [n0.1]; decide)
  have s0 : W0.cell? ((⟨s, 0, none⟩ : Addr).add 7) = some (.map (some m)) := by rw [add_g]; exact hb0.cell 7
  have s1 : (W0.alloc (.cells ⟨ycell now⟩ 58)).cell? ((⟨s, 0, none⟩ : Addr).add 7) = some (.map (some m)) := by rw [add_g]; exact hb1.cell 7
  have s2 : W2.cell? ((⟨s, 0, none⟩ : Addr).add 7) = some (.map (some m)) := by rw [add_g]; exact hb2.cell 7
  have n00 : W0.cell? ⟨nb, 0, none⟩ = some (.int .i64 now.c) := n0.2.cell 0
  have n01 : W0.cell? ((⟨nb, 0, none⟩ : Addr).add 1) = some (.int .i64 now.fr) := by rw [add_g]; exact n0.2.cell 1
  have n02 : W0.cell? ((⟨nb, 0, none⟩ : Addr).add 2) = some (.int .i64 now.to) := by rw [add_g]; exact n0.2.cell 2
  have n10 : (W0.alloc (.cells ⟨ycell now⟩ 58)).cell? ⟨nb, 0, none⟩ = some (.int .i64 now.c) := n1.cell 0
  have n20 : W2.cell? ⟨nb, 0, none⟩ = some (.int .i64 now.c) := n2.cell 0
  unfold ycell at s1 n10 l1
  refine ⟨_, rfl, _, rfl, _, s0, _, n00, ?_⟩
  repeat' first
    | with_reducible exact k4
    | with_reducible refine ⟨_, s0, ?_⟩
    | with_reducible refine ⟨_, n00, ?_⟩
    | with_reducible refine ⟨_, n01, ?_⟩
    | with_reducible refine ⟨_, n02, ?_⟩
    | with_reducible refine ⟨_, s1, ?_⟩
    | with_reducible refine ⟨_, n10, ?_⟩
    | with_reducible refine ⟨_, s2, ?_⟩
    | with_reducible refine ⟨_, n20, ?_⟩
    | with_reducible refine ⟨_, _, _, _, l0, ?_⟩
    | with_reducible refine ⟨_, _, _, _, l1, ?_⟩
    | with_reducible refine ⟨_, _, _, _, r2, ?_⟩
    | with_reducible refine ⟨_, r3, ?_⟩
    | with_reducible refine ⟨?_, ?_⟩
end
end Go.Proofs
