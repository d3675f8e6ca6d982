/- Queues that age: AgingNext. -/
import Derived.Test.YtkighcolplcnbaaAgT12
set_option linter.unusedVariables false
namespace Go.Proofs
open Go Go.Eng
theorem doQ_st (Q : Que) (x : Act) : (doQ Q x).st = Q.st := by
  unfold doQ adQ tkQ drQ
  split
  · split <;> rfl
  · split
    · split <;> rfl
    · split <;> rfl
theorem nxB_len (Q : Que) : nxB Q = decide ((0 : Int) < ((Q.ws.length : Nat) : Int)) := by
  unfold nxB
  rw [decide_eq_decide]
  obtain ⟨l1, l2, l3⟩ := pl_lt Q
  constructor
  · intro h0; omega
  · intro h0
    have : pl Q ≠ -1 := fun e => by have := l2.1 e; rw [this] at h0; simp at h0
    omega
theorem due_wrap {n : Int} {x : Wt} (hn : 0 ≤ n ∧ n ≤ 20) (hx : 0 ≤ x.pr ∧ x.pr ≤ 5) : IntKind.i64.wrap (n * IntKind.i64.wrap (5 - x.pr)) = n * (5 - x.pr) := by
  have hm : (0 : Int) ≤ n * (5 - x.pr) ∧ n * (5 - x.pr) ≤ 100 := by
    have h5 : (5 - x.pr) = 0 ∨ (5 - x.pr) = 1 ∨ (5 - x.pr) = 2 ∨ (5 - x.pr) = 3 ∨ (5 - x.pr) = 4 ∨ (5 - x.pr) = 5 := by omega
    rcases h5 with e | e | e | e | e | e <;> rw [e] <;> omega
  rw [IntWalk.i64_in (5 - x.pr) (by omega), IntWalk.i64_in _ (by omega)]
theorem cN' (b : Bool) {A B : Prop} (h1 : b = false → A) (h2 : b = true → B) : cond (!b) A B := by
  cases b
  · exact h1 rfl
  · exact h2 rfl
section
variable {W : World} {A : Option Addr} {c : Nat} {al : List Act}
def Told (Q : Que) (v : Nat) (id : Int) (k : Nat) (d f : Bool) (top : Int) (w : World) : Prop :=
  d = (Q.ws.take k).any (due Q.st) ∧ ((f = false ∧ (∀ y ∈ Q.ws.take k, y.id ≠ id) ∧ Blk w v 40 [.int .i64 0, .int .i64 0, .int .i64 0]) ∨ (f = true ∧ ∃ y ∈ Q.ws, y.id = id ∧ Blk w v 40 [.int .i64 y.id, .int .i64 y.pr, .int .i64 y.bp])) ∧
  (∀ y ∈ Q.ws.take k, y.pr ≤ top) ∧ (top = 0 ∨ ∃ y ∈ Q.ws, top = y.pr)
theorem agingNext_ok (h : RowAt W.heap.size 2 (ActQ W) A al) (hc : al.length ≤ c) (hm : c ≤ 9223372036854775807) {st : Int} (hst : 0 ≤ st ∧ st < 256) : Ret Try.prog 8 [.int .u8 st, .slice A al.length c] W (Done W) := by
  apply S8_calls
  refine (shown_ok W).use ?_
  rintro v w1 ⟨rfl, f1⟩
  have t0 : 0 ≤ Int.tmod st 21 := Int.tmod_nonneg _ hst.1
  have t1 : Int.tmod st 21 < 21 := Int.tmod_lt_of_pos _ (by decide)
  refine ⟨_, rfl, by decide, ?_⟩
  rw [IntWalk.i64_in _ (by omega)]
  generalize Int.tmod st 21 = n at t0 t1
  refine (QK.new (K := fun _ => False) (B := W.heap.size) (n := n) (by omega) f1.size (fun _ h => h.elim)).use ?_
  rintro v w2 ⟨q, rfl, h2, f2, hq⟩
  refine ⟨_, _, rfl, cF rfl (cF rfl ?_)⟩
  have g2 : Bel W.heap.size W w2 := f1.bel0.trans' f2.bel0
  refine (few_ok hc hm).use ?_
  rintro v w2 ⟨rfl, rfl⟩
  have hrow := RowAt.take h 300
  have h300 := List.length_take_le 300 al
  generalize al.take 300 = bl at hrow h300
  refine ⟨_, _, _, rfl, ?_⟩
  refine ⟨fun s w' => ∃ (i : Nat) (Q : Que), s.1 = (i : Int) ∧ i ≤ bl.length ∧ QK (fun _ => False) W.heap.size w' q Q ∧ Q.n ≤ i ∧ Q.b ≤ i ∧ Rise Q ∧ (Q.st : Int) = n ∧ Bel W.heap.size W w', fun s _ => bl.length - s.1.toNat, ⟨0, _, rfl, Nat.zero_le _, h2, Nat.le_refl _, Nat.le_refl _, ⟨List.Pairwise.nil, by simp⟩, by simp only; omega, g2⟩, ?_⟩
  rintro J ⟨i', ⟨⟩⟩ w3 ⟨i, Q, hi, hil, h3, hn, hb, hR, hQst, g3⟩
  dsimp only at hi ⊢
  subst hi
  refine cD (fun hlt => ?_) (fun hlt => ⟨rfl, g3.top⟩)
  have hlt' : i < bl.length := by have : (i : Int) < (bl.length : Int) := hlt; omega
  have hM : bl.length - ((i + 1 : Nat) : Int).toNat < bl.length - (i : Int).toNat := by omega
  have hx : bl[i]? = some bl[i] := List.getElem?_eq_getElem hlt'
  generalize bl[i] = x at hx
  obtain ⟨a, ha, c0, c1, x0, x1⟩ := act_at hrow g3 (Nat.le_refl _) hx
  refine ⟨a, ha, by omega, by omega, _, by rw [Int.toNat_natCast]; exact c0, _, by rw [Int.toNat_natCast]; exact c1, ?_⟩
  obtain ⟨p1, p2, p3, p4, b4, f4⟩ := cp2 w3 31 (.int .u8 0) (.int .i64 0) (.int .u8 x.1) (.int .i64 x.2)
  refine ⟨p1, p2, p3, p4, ?_⟩
  generalize hw4 : World.setCell _ _ _ = w4 at b4 f4 ⊢
  clear hw4 p1 p2 p3 p4
  generalize w3.heap.size = p at b4 ⊢
  have hplt := b4.lt
  have h4 := h3.fr0 f4
  have g4 := g3.trans' f4.bel0
  have hqok := h3.1.qok
  have hl64 := hqok.1
  have hdn := doQ_n Q x
  have hRd := rise_do hR x
  have hsd := doQ_st Q x
  have nextI : IntKind.i64.wrap ((i : Int) + 1) = ((i + 1 : Nat) : Int) := by rw [IntWalk.i64_in _ (by omega)]; rfl
  have hnx := nxB_len Q
  refine (qall_ok h4.1).use ?_
  rintro v w5 ⟨A5, c5, rfl, o5, f5⟩
  have h5 := h4.fr0 f5
  have b5 := b4.fr f5 fun h => h
  refine ⟨_, _, _, rfl, ?_⟩
  refine (next_ok h5.1).use ?_
  rintro v w6 ⟨rfl, f6⟩
  have h6 := h5.fr0 f6
  have b6 := b5.fr f6 fun h => h
  refine ⟨_, _, rfl, ?_⟩
  refine (next_ok h6.1).use ?_
  rintro v w7 ⟨rfl, f7⟩
  have h7 := h6.fr0 f7
  have b7 := b6.fr f7 fun h => h
  refine ⟨_, _, rfl, ?_⟩
  have g7 := g4.trans' (f5.bel0.trans' (f6.bel0.trans' f7.bel0))
  have r7 := ((o5.mono (ok' := fun k => k < w5.heap.size) fun k hk _ => hk).rd.fr f6 fun _ _ _ h => h).fr f7 fun _ _ _ h => h
  have f8 : Fr none1 w7 (w7.alloc (.cells ⟨[.int .i64 0, .int .i64 0, .int .i64 0]⟩ 40)) := Fr.alloc _ _
  have b8 := Blk.new w7 40 [.int .i64 0, .int .i64 0, .int .i64 0]
  have hs7 : w5.heap.size ≤ w7.heap.size := Nat.le_trans f6.size f7.size
  have hvp : w7.heap.size ≠ p := by have := b7.lt; omega
  have hvl := b8.lt
  generalize w7.alloc (.cells ⟨[.int .i64 0, .int .i64 0, .int .i64 0]⟩ 40) = w8 at f8 b8 hvl ⊢
  obtain ⟨K, h8, hKv, _⟩ := h7.grow1 f8
  have hKv := hKv _ (Nat.le_refl _) hvl
  have r8 : Rd w8 (fun k => k ≠ w7.heap.size) A5 (rws wcell Q.ws) := (r7.fr f8 fun _ _ _ h => h).mono fun k _ h e => by have h : k < w5.heap.size := h; omega
  have p8 := b7.fr f8 fun h => h
  have g8 := g7.trans' f8.bel0
  have hBv : W.heap.size ≤ w7.heap.size := g7.size
  generalize w7.heap.size = v at *
  have eI : nxB Q = true → (if nxB Q then nxI Q else 0) = nxI Q := fun hb => by rw [if_pos hb]
  generalize hidv : (if nxB Q then nxI Q else 0) = id at eI
  -- the loop over all that wait
  refine ⟨fun s w' => ∃ k : Nat, s.2.2.2.1 = (k : Int) ∧ k ≤ Q.ws.length ∧ Told Q v id k s.1 s.2.1 s.2.2.1 w' ∧ Fr (fun k => k = v) w8 w', fun s _ => Q.ws.length - s.2.2.2.1.toNat, ⟨0, rfl, Nat.zero_le _, ⟨rfl, .inl ⟨rfl, by simp, b8⟩, by simp, .inl rfl⟩, Fr.refl _ _⟩, ?_⟩
  rintro J2 ⟨d, fd, top, k', ⟨⟩⟩ w9 ⟨k, hk, hkl, ⟨hd, hfd, htop, htop0⟩, f9⟩
  dsimp only at hk hd hfd htop htop0 ⊢
  subst hk
  refine cD (fun hlt2 => ?_) (fun hlt2 => ?_)
  · have hlt2' : k < Q.ws.length := by have : (k : Int) < (Q.ws.length : Int) := hlt2; omega
    have hxk : Q.ws[k]? = some Q.ws[k] := List.getElem?_eq_getElem hlt2'
    have hmem := List.mem_of_getElem? hxk
    have hst2 : Q.ws.take (k + 1) = Q.ws.take k ++ [Q.ws[k]] := by rw [List.take_add_one, hxk]; rfl
    have hyok := hqok.2.2.2.1 _ hmem
    generalize Q.ws[k] = y at hxk hst2 hmem hyok
    obtain ⟨t, ht, _, d0, d1, d2⟩ := own_wt (r8.fr f9 fun _ _ h e => h e) hxk
    refine ⟨t, ht, by omega, by omega, _, by rw [Int.toNat_natCast]; exact d0, _, by rw [Int.toNat_natCast]; exact d1, _, by rw [Int.toNat_natCast]; exact d2, ?_⟩
    obtain ⟨p1, p2, p3, p4, p5, p6, b10, f10⟩ := cp3 w9 40 (.int .i64 0) (.int .i64 0) (.int .i64 0) (.int .i64 y.id) (.int .i64 y.pr) (.int .i64 y.bp)
    refine ⟨p1, p2, p3, p4, p5, p6, ?_⟩
    have hvlt : v < w9.heap.size := Nat.lt_of_lt_of_le hvl f9.size
    generalize hw10 : World.setCell _ _ _ = w10 at b10 f10 ⊢
    clear hw10 p1 p2 p3 p4 p5 p6
    generalize hz : w9.heap.size = z at b10 ⊢
    have f910 := f9.trans' (f10.mono fun _ _ h => h.elim)
    have nextK : IntKind.i64.wrap ((k : Int) + 1) = ((k + 1 : Nat) : Int) := by rw [IntWalk.i64_in _ (by omega)]; rfl
    have hd1 : (Q.ws.take (k + 1)).any (due Q.st) = (d || due Q.st y) := by rw [hst2, List.any_append, ← hd]; simp
    have tops : (∀ u ∈ Q.ws.take (k + 1), u.pr ≤ (if y.pr > top then y.pr else top)) ∧ ((if y.pr > top then y.pr else top) = 0 ∨ ∃ u ∈ Q.ws, (if y.pr > top then y.pr else top) = u.pr) := by
      refine ⟨fun u hu => ?_, ?_⟩
      · rw [hst2] at hu
        rcases List.mem_append.1 hu with hu | hu
        · have := htop u hu; split <;> omega
        · rw [List.mem_singleton] at hu; subst hu; split <;> omega
      · split
        · exact .inr ⟨y, hmem, rfl⟩
        · exact htop0
    have k6 : ∀ d' : Bool, d' = (Q.ws.take (k + 1)).any (due Q.st) → S8_k6 true n (some ⟨q, 0, none⟩) ⟨p, 0, none⟩ A5 Q.ws.length c5 id (nxB Q) id (nxB Q) d' fd top ⟨v, 0, none⟩ ⟨z, 0, none⟩ A bl.length c ((bl.length : Nat) : Int) (i : Int) A5 Q.ws.length c5 ((Q.ws.length : Nat) : Int) (k : Int) w10 (Done W) (fun s' w'' => (∃ (i : Nat) (Q : Que), s'.1 = (i : Int) ∧ i ≤ bl.length ∧ QK (fun _ => False) W.heap.size w'' q Q ∧ Q.n ≤ i ∧ Q.b ≤ i ∧ Rise Q ∧ (Q.st : Int) = n ∧ Bel W.heap.size W w'') ∧ bl.length - s'.1.toNat < bl.length - (i : Int).toNat)
        (fun s' w'' => (∃ k : Nat, s'.2.2.2.1 = (k : Int) ∧ k ≤ Q.ws.length ∧ Told Q v id k s'.1 s'.2.1 s'.2.2.1 w'' ∧ Fr (fun k => k = v) w8 w'') ∧ Q.ws.length - s'.2.2.2.1.toNat < Q.ws.length - (k : Int).toNat) := by
      intro d' hd'
      refine ⟨_, by rw [add_g]; exact (b10.cell 1).trans rfl, _, (b10.cell 0).trans rfl, cD (fun he => ?_) (fun he => ?_)⟩
      · have hb9 : ∃ c0 c1 c2, Blk w10 v 40 [c0, c1, c2] := by
          rcases hfd with ⟨_, _, h1⟩ | ⟨_, u, _, _, h1⟩
          · exact ⟨_, _, _, h1.fr f10 fun h => h⟩
          · exact ⟨_, _, _, h1.fr f10 fun h => h⟩
        obtain ⟨e0, e1, e2, hb9⟩ := hb9
        have s1 := hb9.set 0 (.int .i64 y.id)
        have s2 := s1.set 1 (.int .i64 y.pr)
        have s3 := s2.set 2 (.int .i64 y.bp)
        refine ⟨_, (b10.cell 0).trans rfl, _, by rw [add_g]; exact (b10.cell 1).trans rfl, _, by rw [add_g]; exact (b10.cell 2).trans rfl, hb9.has 0 (by simp), hb9.free 0, by rw [add_g]; exact s1.has 1 (by simp), by rw [add_g]; exact s1.free 1, by rw [add_g]; exact s2.has 2 (by simp), by rw [add_g]; exact s2.free 2, ?_⟩
        rw [nextK, add_g, add_g]
        refine ⟨⟨k + 1, rfl, by omega, ⟨hd', .inr ⟨rfl, y, hmem, he, s3⟩, tops.1, tops.2⟩, f910.trans' ?_⟩, by dsimp only; omega⟩
        exact (Fr.setCell (F := fun k => k = v) w10 rfl _).trans' ((Fr.setCell (F := fun k => k = v) _ rfl _).trans' (Fr.setCell (F := fun k => k = v) _ rfl _))
      · rw [nextK]
        refine ⟨⟨k + 1, rfl, by omega, ⟨hd', ?_, tops.1, tops.2⟩, f910⟩, by dsimp only; omega⟩
        rcases hfd with ⟨h0, h1, h2⟩ | ⟨h0, u, h1, h2, h3⟩
        · refine .inl ⟨h0, fun u hu => ?_, h2.fr f10 fun h => h⟩
          rw [hst2] at hu
          rcases List.mem_append.1 hu with hu | hu
          · exact h1 u hu
          · rw [List.mem_singleton] at hu; subst hu; exact he
        · exact .inr ⟨h0, u, h1, h2, h3.fr f10 fun h => h⟩
    refine cB (fun hdt => k6 true (by rw [hd1, hdt]; rfl)) (fun hdf => ⟨_, (b10.cell 2).trans rfl, _, (b10.cell 1).trans rfl, ?_⟩)
    rw [due_wrap ⟨t0, by omega⟩ ⟨hyok.1, hyok.2.1⟩]
    refine k6 _ ?_
    rw [hd1, hdf, Bool.false_or]
    unfold due
    rw [hQst]
  · have hge : k = Q.ws.length := by have : ¬ (k : Int) < (Q.ws.length : Int) := hlt2; omega
    subst hge
    rw [List.take_length] at hd hfd htop
    have h9 := h8.fr f9 fun k _ e => .inl (by have e : k = v := e; subst e; exact hKv)
    have g9 := g8.trans' (f9.bel fun k e => by subst e; exact hBv)
    have p9 := p8.fr f9 fun e => hvp e.symm
    have r9 := r8.fr f9 fun _ _ h e => h e
    -- what is done last
    have k11 : ∀ {u}, QK K W.heap.size u q Q → Bel W.heap.size W u → Blk u p 31 [.int .u8 x.1, .int .i64 x.2] →
        S8_k11 true n (some ⟨q, 0, none⟩) ⟨p, 0, none⟩ id (nxB Q) A bl.length c ((bl.length : Nat) : Int) (i : Int) u (Done W) (fun s' w'' => (∃ (i : Nat) (Q : Que), s'.1 = (i : Int) ∧ i ≤ bl.length ∧ QK (fun _ => False) W.heap.size w'' q Q ∧ Q.n ≤ i ∧ Q.b ≤ i ∧ Rise Q ∧ (Q.st : Int) = n ∧ Bel W.heap.size W w'') ∧ bl.length - s'.1.toNat < bl.length - (i : Int).toNat) := by
      intro u hu gu pu
      have sh : ∀ {u' Q'}, QK K W.heap.size u' q Q' → QK (fun _ => False) W.heap.size u' q Q' := fun h => h.shrink (K' := fun _ => False) fun _ h => h.elim
      refine ⟨x.1, (pu.cell 0).trans rfl, by decide, cD (fun k0 => ?_) (fun k0 => cD (fun k1 => ?_) (fun k1 => ?_))⟩
      · have e : doQ Q x = adQ Q x.2 := if_pos k0
        rw [e] at hdn hRd hsd
        refine ⟨_, by rw [add_g]; exact (pu.cell 1).trans rfl, ?_⟩
        refine (hu.add x.2 (by omega)).use ?_
        rintro v' u2 ⟨rfl, hu2, fu⟩
        rw [nextI]
        exact ⟨_, _, rfl, ⟨i + 1, _, rfl, by omega, sh hu2, by omega, by omega, hRd, by rw [hsd]; exact hQst, gu.trans' (offK_bel fu)⟩, hM⟩
      · have e : doQ Q x = tkQ Q := by unfold doQ; rw [if_neg (show ¬ kd x = 0 from k0), if_pos (show kd x = 1 from k1)]
        rw [e] at hdn hRd hsd
        refine (hu.take (by omega)).use ?_
        rintro v' u2 ⟨rfl, hu2, fu⟩
        rw [hidv]
        refine ⟨_, _, rfl, cF (by simp) (cF (by simp) ?_)⟩
        rw [nextI]
        exact ⟨⟨i + 1, _, rfl, by omega, sh hu2, by omega, by omega, hRd, by rw [hsd]; exact hQst, gu.trans' (offK_bel fu)⟩, hM⟩
      · have e : doQ Q x = drQ Q x.2 := by unfold doQ; rw [if_neg (show ¬ kd x = 0 from k0), if_neg (show ¬ kd x = 1 from k1)]
        rw [e] at hdn hRd hsd
        refine ⟨_, by rw [add_g]; exact (pu.cell 1).trans rfl, ?_⟩
        refine (hu.drop x.2).use ?_
        rintro v' u2 ⟨rfl, hu2, fu⟩
        rw [nextI]
        exact ⟨_, rfl, ⟨i + 1, _, rfl, by omega, sh hu2, by omega, by omega, hRd, by rw [hsd]; exact hQst, gu.trans' (offK_bel fu)⟩, hM⟩
    have all : ∀ R : Bool → World → Prop, (∀ u, Fr none1 w9 u → R (!true) u) → Calls Try.prog 15 ⟨[.pointer (some ⟨q, 0, none⟩)]⟩ w9 fun e w__1 => ∃ (t109_a : Option Addr) (t109_l : Nat) (t109_c : Nat), e = .returned (.slice t109_a t109_l t109_c) ∧ Calls Try.prog 17 ⟨[.slice t109_a t109_l t109_c, .slice A5 Q.ws.length c5]⟩ w__1 fun e w__2 => ∃ (t111 : Bool), e = .returned (.bool t111) ∧ R (!t111) w__2 := by
      intro R hR
      refine (qall_ok h9.1).use ?_
      rintro v' u ⟨A10, c10, rfl, o10, f10⟩
      refine ⟨_, _, _, rfl, ?_⟩
      refine (wsame_ok (c1 := c10) (c2 := c5) o10.rd (r9.fr f10 fun _ _ _ h => h) (by omega)).use ?_
      rintro v' u2 ⟨rfl, f11⟩
      rw [decide_eq_true rfl]
      exact ⟨_, rfl, hR u2 (f10.trans' f11)⟩
    refine cF (by rw [hnx]; simp) (cF (by simp) (cF (by simp) ?_))
    cases hnb : nxB Q with
    | false =>
      rw [hnb] at k11
      refine cF rfl (all (fun b u => S8_k8 true n (some ⟨q, 0, none⟩) ⟨p, 0, none⟩ id false d top ⟨v, 0, none⟩ A bl.length c ((bl.length : Nat) : Int) (i : Int) b u (Done W) _) fun u fu => ?_)
      exact cF rfl (cF rfl (cF rfl (cF rfl (k11 (h9.fr0 fu) (g9.trans' fu.bel0) (p9.fr fu fun h => h)))))
    | true =>
      obtain ⟨x0', hx0, hid0, hdue, hpr⟩ := next_told hnb
      have eV := eI hnb
      rcases hfd with ⟨_, h1, _⟩ | ⟨h0, y, hy, hyi, hyb⟩
      · exact absurd (hid0.trans eV.symm) (h1 x0' hx0)
      · have ey : y = x0' := id_inj hR hy hx0 (by rw [hyi, hid0, eV])
        subst ey
        have hyok := hqok.2.2.2.1 _ hy
        rw [hnb] at k11
        refine cT rfl (cF (by rw [h0]; rfl) (all (fun b u => S8_k8 true n (some ⟨q, 0, none⟩) ⟨p, 0, none⟩ id true d top ⟨v, 0, none⟩ A bl.length c ((bl.length : Nat) : Int) (i : Int) b u (Done W) _) fun u fu => ?_))
        have hyb' := hyb.fr fu fun h => h
        refine cF rfl (cT rfl ⟨_, by rw [add_g]; exact (hyb'.cell 2).trans rfl, _, by rw [add_g]; exact (hyb'.cell 1).trans rfl, ?_⟩)
        rw [due_wrap ⟨t0, by omega⟩ ⟨hyok.1, hyok.2.1⟩]
        have ed : d = decide (n * (5 - y.pr) ≤ y.bp) := by rw [hd, hdue]; unfold due; rw [hQst]
        have fin := k11 (h9.fr0 fu) (g9.trans' fu.bel0) (p9.fr fu fun h => h)
        refine cF (by rw [← ed]; simp) (cT rfl (cN' d (fun hd0 => ?_) (fun _ => ?_)))
        · refine ⟨_, by rw [add_g]; exact (hyb'.cell 1).trans rfl, ?_⟩
          have hle := hpr (by rw [← hd]; exact hd0)
          have e1 := htop y hy
          have e2 : top ≤ y.pr := by
            rcases htop0 with e | ⟨u', hu', e⟩
            · rw [e]; exact hyok.1
            · rw [e]; exact hle u' hu'
          have e3 : y.pr = top := Int.le_antisymm e1 e2
          exact cF (by rw [e3]; simp) fin
        · exact cF rfl fin
end
end Go.Proofs
