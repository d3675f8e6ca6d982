import Derived.Test.YtgcoecbbgipgpaaHeapG
import Derived.Test.YtgcoecbbgipgpaaHp4
set_option linter.unusedVariables false
namespace Go.Proofs
open Go Go.Eng
abbrev HAct := Bool × Int × Int
def inI (x : Int) : Prop := IntKind.i64.min ≤ x ∧ x ≤ IntKind.i64.max
def ActQ (w : World) (a : Addr) (x : HAct) : Prop :=
  w.cell? a = some (.bool x.1) ∧ w.cell? (a.add 1) = some (.int .i64 x.2.1) ∧ w.cell? (a.add 2) = some (.int .i64 x.2.2) ∧ inI x.2.1 ∧ inI x.2.2
theorem ActQ.fr {w w' : World} {B : Nat} {a : Addr} {x : HAct} (h : ActQ w a x) (hB : B ≤ w.heap.size) (hb : a.block < B) (g : Bel B w w') : ActQ w' a x := by
  obtain ⟨h1, h2, h3, h4⟩ := h
  have hc : ∀ j, w'.cell? (a.add j) = w.cell? (a.add j) := fun j => g.cell (by rw [add_block]; omega) (by rw [add_block]; simp only [from1]; omega)
  refine ⟨?_, by rw [hc]; exact h2, by rw [hc]; exact h3, h4⟩
  have := hc 0
  rw [add_zero'] at this
  rw [this]; exact h1
theorem few_ok {w : World} {B : Nat} {A : Option Addr} {l c : Nat} {al : List HAct} {Q : Addr → HAct → Prop} (h : RowAt B 3 Q A al) (hl : al.length = l) (hc : l ≤ c) :
    Ret Try.prog 12 [.slice A l c] w fun v w' => w' = w ∧ ∃ (l' c' : Nat) (bs : List HAct), v = .slice A l' c' ∧ bs.length = l' ∧ l' ≤ 300 ∧ RowAt B 3 Q A bs := by
  apply S12_calls
  have e : ∃ m : Nat, (if 300 < ((l : Nat) : Int) then 300 else ((l : Nat) : Int)) = (m : Int) ∧ m ≤ l ∧ m ≤ 300 := by
    split
    · exact ⟨300, rfl, by omega, by omega⟩
    · exact ⟨l, rfl, by omega, by omega⟩
  obtain ⟨m, hm, h1, h2⟩ := e
  unfold S12
  rw [hm]
  refine ⟨by omega, by omega, rfl, m, c, al.take m, ?_, by simp; omega, h2, RowAt.take h m⟩
  rw [slAddr_zero]; simp
def BothH (B : Nat) (w : World) (hp r : Nat) (S : List En) (n : Nat) : Prop := HeapIs B w hp S n ∧ RefAt B w r (S.map itm)
theorem BothH.fr0 {B : Nat} {w w' : World} {hp r : Nat} {S : List En} {n : Nat} (h : BothH B w hp r S n) (f : Fr none1 w w') : BothH B w' hp r S n := ⟨h.1.fr0 f, h.2.fr0 f⟩
section
variable {W : World} {hp r : Nat}
theorem plays_end {R : Value → World → Prop} {B1 : Int × Unit → World → Prop} {w : World} {S : List En} {A : Option Addr} {l c : Nat} {m : Int} {n k : Nat} (hb : BothH W.heap.size w hp r S k) (hn : (n : Int) + 1 ≤ 1000) (K : ∀ w', Fr none1 w w' → B1 ((n : Int) + 1, ()) w') :
    S3_k4 true (some ⟨hp, 0, none⟩) ⟨r, 0, none⟩ A l c m (n : Int) w R B1 := by
  refine (peek_ok hb.1).use ?_
  rintro v w1 ⟨rfl, f1⟩
  obtain ⟨p1, p2, p3, p4, b2, f2⟩ := cp2 w1 32 (.int .i64 0) (.int .i64 0) (.int .i64 (hd S).1) (.int .i64 (hd S).2)
  refine ⟨_, _, _, rfl, p1, p2, p3, p4, ?_⟩
  generalize World.setCell _ _ _ = w2 at b2 f2 ⊢
  generalize w1.heap.size = x at b2 ⊢
  have f02 := f1.trans' f2
  refine (ref_peek (hb.fr0 f02).2).use ?_
  rintro v w3 ⟨rfl, f3⟩
  have e : hdI (S.map itm) = hd S ∧ (S.map itm).isEmpty = S.isEmpty := by cases S <;> exact ⟨rfl, rfl⟩
  obtain ⟨e1, e2⟩ := e
  obtain ⟨q1, q2, q3, q4, b4, f4⟩ := cp2 w3 32 (.int .i64 0) (.int .i64 0) (.int .i64 (hdI (S.map itm)).1) (.int .i64 (hdI (S.map itm)).2)
  refine ⟨_, _, _, rfl, q1, q2, q3, q4, ?_⟩
  have b2' := (b2.fr f3 (fun h => h)).fr f4 (fun h => h)
  generalize World.setCell _ _ _ = w4 at b4 f4 b2' ⊢
  generalize w3.heap.size = y at b4 ⊢
  rw [e1] at b4
  have d : Fr none1 w4 w4.drew := Fr.drew w4
  have b5 := b2'.fr d (fun h => h)
  have b6 := b4.fr d (fun h => h)
  have f05 : Fr none1 w w4.drew := f02.trans' (f3.trans' (f4.trans' d))
  refine ⟨_, (b5.cell 0).trans rfl, _, (b5.cell 1).trans rfl, _, (b6.cell 0).trans rfl, _, (b6.cell 1).trans rfl, _, _, item_ne _ _ (hd S) (hd S) _, cF (by simp) (cF (by rw [e2]; simp) ?_)⟩
  obtain ⟨h5, hb5, A5, c5, j1, j2, j3⟩ := hb.fr0 f05
  have fin : S3_k5 true (some ⟨hp, 0, none⟩) ⟨r, 0, none⟩ A l c m (n : Int) (!decide ((S.length : Int) = ((S.map itm).length : Int))) w4.drew R B1 := by
    refine cF (by simp) ?_
    rw [IntWalk.i64_in ((n : Int) + 1) (by omega)]
    exact K _ f05
  refine ⟨_, rfl, ?_, ?_⟩
  · refine (len_ok h5).use ?_
    rintro v w6 ⟨rfl, rfl⟩
    exact ⟨_, rfl, A5, _, c5, (j1.cell 0).trans rfl, fin⟩
  · refine ⟨A5, _, c5, (j1.cell 0).trans rfl, ?_⟩
    refine (len_ok h5).use ?_
    rintro v w6 ⟨rfl, rfl⟩
    exact ⟨_, rfl, fin⟩
theorem heapPlays_ok {A : Option Addr} {l c : Nat} {al : List HAct} (h : RowAt W.heap.size 3 (ActQ W) A al) (hl : al.length = l) (hc : l ≤ c) : Ret Try.prog 3 [.slice A l c] W (Done W) := by
  apply S3_calls
  refine (shown_ok _).use ?_
  rintro v w1 ⟨rfl, f1⟩
  refine ⟨_, rfl, ?_⟩
  refine (new_ok w1 f1.size).use ?_
  rintro v w2 ⟨hp, rfl, h2, f2⟩
  refine ⟨_, rfl, cF rfl ?_⟩
  have gg : Bel W.heap.size W w2 := f1.bel0.trans' f2.bel0
  have a0 : Fr none1 w2 (w2.alloc (.cells ⟨[.slice none 0 0]⟩ 29)) := Fr.alloc _ _
  have r2 : RefAt W.heap.size (w2.alloc (.cells ⟨[.slice none 0 0]⟩ 29)) w2.heap.size [] := ⟨⟨gg.size, by simp⟩, none, 0, Blk.new w2 29 _, Rd.nil _ _ _, Nat.le_refl _⟩
  have b2 : BothH W.heap.size (w2.alloc (.cells ⟨[.slice none 0 0]⟩ 29)) hp w2.heap.size [] 0 := ⟨h2.fr0 a0, r2⟩
  have g2 := gg.trans' a0.bel0
  show Calls Try.prog 12 ⟨[.slice A l c]⟩ (w2.alloc (.cells ⟨[.slice none 0 0]⟩ 29)) _
  generalize w2.heap.size = r at b2 ⊢
  generalize w2.alloc (.cells ⟨[.slice none 0 0]⟩ 29) = w2 at b2 g2 ⊢
  refine (few_ok h hl hc).use ?_
  rintro v w2 ⟨rfl, n1, d1, bs, rfl, hbl, hb300, hrow⟩
  refine ⟨_, _, _, rfl, ?_⟩
  refine ⟨fun s w' => ∃ (n k : Nat) (S : List En), s.1 = (n : Int) ∧ n ≤ n1 ∧ k ≤ n ∧ Bel W.heap.size W w' ∧ BothH W.heap.size w' hp r S k, fun s _ => n1 - s.1.toNat, ⟨0, 0, [], rfl, Nat.zero_le _, Nat.le_refl _, g2, b2⟩, ?_⟩
  rintro J ⟨i, ⟨⟩⟩ w3 ⟨n, k, S, hi, hn, hk, g3, b3⟩
  dsimp only at hi ⊢
  subst hi
  refine cD (fun hlt => ?_) (fun hlt => ?_)
  · have hx : bs[n]? = some bs[n] := List.getElem?_eq_getElem (by omega)
    obtain ⟨a, ha, hab, hq⟩ := hrow n _ hx
    obtain ⟨q1, q2, q3, q4, q5⟩ := hq.fr (Nat.le_refl _) (by rw [add_block]; exact hab) g3
    refine ⟨a, ha, by omega, by omega, _, by rw [Int.toNat_natCast]; exact q1, _, by rw [Int.toNat_natCast]; exact q2, _, by rw [Int.toNat_natCast]; exact q3, ?_⟩
    obtain ⟨p1, p2, p3, p4, p5, p6, b4, f4⟩ := cp3 w3 34 (.bool false) (.int .i64 0) (.int .i64 0) (.bool bs[n].1) (.int .i64 bs[n].2.1) (.int .i64 bs[n].2.2)
    refine ⟨p1, p2, p3, p4, p5, p6, ?_⟩
    generalize World.setCell _ _ _ = w4 at b4 f4 ⊢
    generalize w3.heap.size = p at b4 ⊢
    have g4 := g3.trans' f4.bel0
    obtain ⟨H4, R4⟩ := b3.fr0 f4
    have hlen4 := H4.2.2.2.2
    refine ⟨_, (b4.cell 0).trans rfl, ?_⟩
    have fin : ∀ w6 k' S', BothH W.heap.size w6 hp r S' k' → k' ≤ n + 1 → Bel W.heap.size w4 w6 →
        S3_k4 true (some ⟨hp, 0, none⟩) ⟨r, 0, none⟩ A n1 d1 (n1 : Int) (n : Int) w6 (Done W) (fun s' w'' => (∃ (n k : Nat) (S : List En), s'.1 = (n : Int) ∧ n ≤ n1 ∧ k ≤ n ∧ Bel W.heap.size W w'' ∧ BothH W.heap.size w'' hp r S k) ∧ n1 - s'.1.toNat < n1 - (n : Int).toNat) := by
      intro w6 k' S' b6 hk' g6
      exact plays_end b6 (by omega) fun w7 f7 => ⟨⟨n + 1, k', S', rfl, by omega, hk', (g4.trans' g6).trans' f7.bel0, b6.fr0 f7⟩, by dsimp only; omega⟩
    refine cB (fun hg => ?_) (fun hg => ?_)
    · refine (pop_ok H4 (by omega)).use ?_
      rintro v w5 ⟨rfl, H5, f5⟩
      obtain ⟨r1, r2, r3, r4, b6, f6⟩ := cp2 w5 32 (.int .i64 0) (.int .i64 0) (.int .i64 (hd S).1) (.int .i64 (hd S).2)
      refine ⟨_, _, _, rfl, r1, r2, r3, r4, ?_⟩
      generalize World.setCell _ _ _ = w6 at b6 f6 ⊢
      generalize w5.heap.size = x at b6 ⊢
      have R5 := (R4.frT f5 fun k _ hk => hpF_no (ts := [29, 32]) (by decide) (by decide) k hk).fr0 f6
      refine (ref_pop R5).use ?_
      rintro v w7 ⟨rfl, R7, f7⟩
      have e : hdI (S.map itm) = hd S ∧ (S.map itm).isEmpty = S.isEmpty := by cases S <;> exact ⟨rfl, rfl⟩
      obtain ⟨e1, e2⟩ := e
      obtain ⟨s1, s2, s3, s4, b8, f8⟩ := cp2 w7 32 (.int .i64 0) (.int .i64 0) (.int .i64 (hdI (S.map itm)).1) (.int .i64 (hdI (S.map itm)).2)
      refine ⟨_, _, _, rfl, s1, s2, s3, s4, ?_⟩
      have b6' := (b6.fr f7 (fun hk => refF_no (ts := [32]) (by decide) _ hk (b6.hasTy (by decide)))).fr f8 (fun h => h)
      generalize World.setCell _ _ _ = w8 at b8 f8 b6' ⊢
      generalize w7.heap.size = y at b8 ⊢
      rw [e1] at b8
      refine ⟨_, (b6'.cell 0).trans rfl, _, (b6'.cell 1).trans rfl, _, (b8.cell 0).trans rfl, _, (b8.cell 1).trans rfl, _, _, item_ne _ _ (hd S) (hd S) _, cF (by simp) (cF (by rw [e2]; simp) ?_)⟩
      have H8 := ((H5.fr0 f6).frT f7 fun k _ hk => refF_no (ts := [52, 56]) (by decide) k hk).fr0 f8
      rw [← List.map_tail] at R7
      exact fin w8 k S.tail ⟨H8, R7.fr0 f8⟩ (by omega) ((((hpF_bel f5).trans' f6.bel0).trans' (refF_bel f7)).trans' f8.bel0)
    · refine ⟨_, (b4.cell 1).trans rfl, _, (b4.cell 2).trans rfl, ?_⟩
      refine (push_ok H4 g4.size (by omega) (bs[n].2.1, bs[n].2.2)).use ?_
      rintro v w5 ⟨rfl, H5, f5⟩
      have b5 := b4.fr f5 (fun hk => hpF_no (ts := [34]) (by decide) (by decide) _ hk (b4.hasTy (by decide)))
      refine ⟨rfl, _, (b5.cell 1).trans rfl, _, (b5.cell 2).trans rfl, ?_⟩
      have R5 := R4.frT f5 fun k _ hk => hpF_no (ts := [29, 32]) (by decide) (by decide) k hk
      have g5 := g4.trans' (hpF_bel f5)
      refine (ref_push R5 g5.size (by rw [List.length_map]; omega) (bs[n].2.1, bs[n].2.2)).use ?_
      rintro v w6 ⟨rfl, R6, f6⟩
      refine ⟨rfl, ?_⟩
      have H6 := H5.frT f6 fun k _ hk => refF_no (ts := [52, 56]) (by decide) k hk
      have e : insI (bs[n].2.1, bs[n].2.2) (S.map itm) = (insE (bs[n].2.1, bs[n].2.2, (k : Int)) S).map itm := (insE_itm (bs[n].2.1, bs[n].2.2, (k : Int)) S).symm
      rw [e] at R6
      exact fin w6 (k + 1) _ ⟨H6, R6⟩ (by omega) ((hpF_bel f5).trans' (refF_bel f6))
  · exact ⟨rfl, g3.top⟩
end
end Go.Proofs
