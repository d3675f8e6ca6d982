import Derived.Test.YtgcffkjnacmpjaaLockC
set_option linter.unusedVariables false
namespace Go.Proofs
open Go Go.Eng
abbrev LAct := Bool × Int × Int
def inI (x : Int) : Prop := IntKind.i64.min ≤ x ∧ x ≤ IntKind.i64.max
def ActQ (w : World) (a : Addr) (x : LAct) : Prop :=
  w.cell? a = some (.bool x.1) ∧ w.cell? (a.add 1) = some (.int .i64 x.2.1) ∧ w.cell? (a.add 2) = some (.int .i64 x.2.2) ∧ inI x.2.1 ∧ inI x.2.2
theorem ActQ.fr {w w' : World} {B : Nat} {a : Addr} {x : LAct} (h : ActQ w a x) (hB : B ≤ w.heap.size) (hb : a.block < B) (g : Bel B w w') : ActQ w' a x := by
  obtain ⟨h1, h2, h3, h4⟩ := h
  have hc : ∀ j, w'.cell? (a.add j) = w.cell? (a.add j) := fun j => g.cell (by rw [add_block]; omega) (by rw [add_block]; simp only [from1]; omega)
  refine ⟨?_, by rw [hc]; exact h2, by rw [hc]; exact h3, h4⟩
  have := hc 0
  rw [add_zero'] at this
  rw [this]; exact h1
def actE (T : Tab) (x : LAct) : Int := if x.1 then relE T x.2.1 x.2.2 else holdE T x.2.1 x.2.2
def actT (T : Tab) (x : LAct) : Tab := if x.1 then relT T x.2.1 x.2.2 else holdT T x.2.1 x.2.2
def tbF (t : Nat) : Nat → Prop := fun k => k = t
theorem does_ok {w : World} {t : Nat} {T : Tab} (h : TabAt w t T) (x : LAct) (hx : inI x.2.1) : Ret Try.prog 10 [.pointer (some ⟨t, 0, none⟩), .agg ⟨[.bool x.1, .int .i64 x.2.1, .int .i64 x.2.2]⟩] w fun v w' => v = .int .i64 (actE T x) ∧ TabAt w' t (actT T x) ∧ Fr (tbF t) w w' := by
  obtain ⟨g, r, z⟩ := x
  apply S10_calls
  have b0 := Blk.new w 28 [.bool g, .int .i64 r, .int .i64 z]
  have f0 : Fr none1 w (w.alloc (.cells ⟨[.bool g, .int .i64 r, .int .i64 z]⟩ 28)) := Fr.alloc _ _
  have h0 := h.fr f0 (fun h => h)
  refine ⟨_, by rw [b0.cell]; rfl, ?_⟩
  cases g with
  | true =>
    refine cT rfl ⟨_, by rw [b0.cell]; rfl, _, by rw [b0.cell]; rfl, ?_⟩
    refine (rel_ok h0 hx).use ?_
    rintro v w2 ⟨rfl, h2, f2⟩
    exact ⟨_, rfl, rfl, h2, (f0.mono fun _ _ h => h.elim).trans' f2⟩
  | false =>
    refine cF rfl ⟨_, by rw [add_g, b0.cell]; rfl, _, by rw [add_g, b0.cell]; rfl, ?_⟩
    refine (hold_ok h0 hx).use ?_
    rintro v w2 ⟨rfl, h2, f2⟩
    exact ⟨_, rfl, rfl, h2, (f0.mono fun _ _ h => h.elim).trans' f2⟩
theorem few_ok {w : World} {B : Nat} {A : Option Addr} {l c : Nat} {al : List LAct} {Q : Addr → LAct → Prop} (h : RowAt B 3 Q A al) (hl : al.length = l) (hc : l ≤ c) :
    Ret Try.prog 9 [.slice A l c] w fun v w' => w' = w ∧ ∃ (l' c' : Nat) (bs : List LAct), v = .slice A l' c' ∧ bs.length = l' ∧ l' ≤ 300 ∧ RowAt B 3 Q A bs := by
  apply S9_calls
  have e : ∃ m : Nat, (if 300 < ((l : Nat) : Int) then 300 else ((l : Nat) : Int)) = (m : Int) ∧ m ≤ l ∧ m ≤ 300 := by
    split
    · exact ⟨300, rfl, by omega, by omega⟩
    · exact ⟨l, rfl, by omega, by omega⟩
  obtain ⟨m, hm, h1, h2⟩ := e
  unfold S9
  rw [hm]
  refine ⟨by omega, by omega, rfl, m, c, al.take m, ?_, by simp; omega, h2, RowAt.take h m⟩
  rw [slAddr_zero]; simp
/-- What others ask for does not turn what one holds. -/
theorem keeps (T : Tab) (x : LAct) (who : Int) (hw : 0 ≤ who ∧ who < 8) (hne : x.2.1 ≠ who) (i : Nat) : actT T x i = who + 1 ↔ T i = who + 1 := by
  unfold actT
  split
  · unfold relT
    split
    · rename_i h
      unfold relE at h
      split at h
      · split at h
        · omega
        · unfold upd; split
          · rename_i h1 h2; subst h2; omega
          · rfl
      · omega
    · rfl
  · unfold holdT
    split
    · rename_i h
      unfold holdE at h
      split at h
      · split at h
        · omega
        · unfold upd; split
          · rename_i h1 h2; subst h2; omega
          · rfl
      · omega
    · rfl
theorem zones_congr {T T' : Tab} {o : Int} (h : ∀ i, T i = o ↔ T' i = o) : zonesOf T o = zonesOf T' o := by
  unfold zonesOf upto
  congr 1
  apply List.filter_congr
  intro i _
  rw [decide_eq_decide]; exact h i
section
variable {W : World}
def Done (W : World) : Value → World → Prop := fun v w' => v = .bool true ∧ Fr none1 W w'
theorem lockKeeps_ok {A A' : Option Addr} {l c l' c' : Nat} {al al' : List LAct} (h : RowAt W.heap.size 3 (ActQ W) A al) (hl : al.length = l) (hc : l ≤ c) (h' : RowAt W.heap.size 3 (ActQ W) A' al') (hl' : al'.length = l') (hc' : l' ≤ c') (m : Int) (hm : 0 ≤ m ∧ m < 256) :
    Ret Try.prog 3 [.slice A l c, .slice A' l' c', .int .u8 m] W (Done W) := by
  apply S3_calls
  refine (shown_ok _).use ?_
  rintro v w1 ⟨rfl, f1⟩
  refine ⟨_, rfl, ?_⟩
  refine (new_ok w1).use ?_
  rintro v w2 ⟨t, rfl, ht, h2, f2⟩
  have ht : W.heap.size ≤ t := Nat.le_trans f1.size ht
  refine ⟨_, rfl, cF rfl ?_⟩
  have g2 : Bel W.heap.size W w2 := f1.bel0.trans' f2.bel0
  have gt : ∀ {a b : World}, Fr (tbF t) a b → Bel W.heap.size a b := fun f => f.bel fun k hk => hk ▸ ht
  refine (few_ok h hl hc).use ?_
  rintro v w2 ⟨rfl, n1, d1, bs, rfl, hbl, hb300, hrow⟩
  refine ⟨_, _, _, rfl, ?_⟩
  refine ⟨fun s w' => ∃ (n : Nat) (T : Tab), s.1 = (n : Int) ∧ n ≤ n1 ∧ Bel W.heap.size W w' ∧ TabAt w' t T, fun s _ => n1 - s.1.toNat, ⟨0, _, rfl, Nat.zero_le _, g2, h2⟩, ?_⟩
  rintro J ⟨i, ⟨⟩⟩ w3 ⟨n, T, hi, hn, g3, h3⟩
  dsimp only at hi ⊢
  subst hi
  refine cD (fun hlt => ?_) (fun hlt => ?_)
  · have hx : bs[n]? = some bs[n] := List.getElem?_eq_getElem (by omega)
    obtain ⟨a, ha, hab, hq⟩ := hrow n _ hx
    obtain ⟨q1, q2, q3, q4, q5⟩ := hq.fr (Nat.le_refl _) (by rw [add_block]; exact hab) g3
    refine ⟨a, ha, by omega, by omega, _, by rw [Int.toNat_natCast]; exact q1, _, by rw [Int.toNat_natCast]; exact q2, _, by rw [Int.toNat_natCast]; exact q3, ?_⟩
    obtain ⟨p1, p2, p3, p4, p5, p6, b4, f4⟩ := cp3 w3 28 (.bool false) (.int .i64 0) (.int .i64 0) (.bool bs[n].1) (.int .i64 bs[n].2.1) (.int .i64 bs[n].2.2)
    refine ⟨p1, p2, p3, p4, p5, p6, ?_⟩
    generalize World.setCell _ _ _ = w4 at b4 f4 ⊢
    refine ⟨_, by rw [b4.cell]; rfl, _, by rw [b4.cell]; rfl, _, by rw [b4.cell]; rfl, ?_⟩
    refine (does_ok (h3.fr f4 fun h => h) bs[n] q4).use ?_
    rintro v w5 ⟨rfl, h5, f5⟩
    rw [IntWalk.i64_in ((n : Int) + 1) (by omega)]
    exact ⟨_, rfl, ⟨n + 1, _, rfl, by omega, (g3.trans' f4.bel0).trans' (gt f5), h5⟩, by dsimp only; omega⟩
  · refine ⟨by decide, ?_⟩
    have hq : 0 ≤ Int.tmod m 8 ∧ Int.tmod m 8 < 8 := ⟨Int.tmod_nonneg _ hm.1, Int.tmod_lt_of_pos _ (by decide)⟩
    rw [IntWalk.i64_in (Int.tmod m 8) (by omega)]
    generalize Int.tmod m 8 = who at hq
    refine (of_ok h3 who).use ?_
    rintro v w4 ⟨A4, c4, rfl, o4, f4⟩
    refine ⟨_, _, _, rfl, ?_⟩
    have h4 := h3.fr f4 (fun h => h)
    have g4 := g3.trans' f4.bel0
    refine (few_ok h' hl' hc').use ?_
    rintro v w4 ⟨rfl, n2, d2, bs2, rfl, hbl2, hb3002, hrow2⟩
    refine ⟨_, _, _, rfl, ?_⟩
    refine ⟨fun s w' => ∃ (n : Nat) (T' : Tab), s.1 = (n : Int) ∧ n ≤ n2 ∧ Bel W.heap.size W w' ∧ TabAt w' t T' ∧ Own w' 3 1 (fun _ => True) A4 (robots T who).length c4 (ints (robots T who)) ∧ ∀ i, T' i = who + 1 ↔ T i = who + 1, fun s _ => n2 - s.1.toNat, ⟨0, T, rfl, Nat.zero_le _, g4, h4, o4.mono fun _ _ _ => trivial, fun i => Iff.rfl⟩, ?_⟩
    rintro J ⟨i, ⟨⟩⟩ w5 ⟨n, T5, hi, hn, g5, h5, o5, hT⟩
    dsimp only at hi ⊢
    subst hi
    refine cD (fun hlt => ?_) (fun hlt => ?_)
    · have hx : bs2[n]? = some bs2[n] := List.getElem?_eq_getElem (by omega)
      obtain ⟨a, ha, hab, hq'⟩ := hrow2 n _ hx
      obtain ⟨q1, q2, q3, q4, q5⟩ := hq'.fr (Nat.le_refl _) (by rw [add_block]; exact hab) g5
      refine ⟨a, ha, by omega, by omega, _, by rw [Int.toNat_natCast]; exact q1, _, by rw [Int.toNat_natCast]; exact q2, _, by rw [Int.toNat_natCast]; exact q3, ?_⟩
      obtain ⟨p1, p2, p3, p4, p5, p6, b6, f6⟩ := cp3 w5 28 (.bool false) (.int .i64 0) (.int .i64 0) (.bool bs2[n].1) (.int .i64 bs2[n].2.1) (.int .i64 bs2[n].2.2)
      refine ⟨p1, p2, p3, p4, p5, p6, ?_⟩
      generalize World.setCell _ _ _ = w6 at b6 f6 ⊢
      have h6 := h5.fr f6 (fun h => h)
      have o6 := o5.fr f6 (fun _ _ _ h => h)
      rw [IntWalk.i64_in ((n : Int) + 1) (by omega)]
      refine ⟨_, by rw [b6.cell]; rfl, ?_⟩
      refine cN (fun hne => ?_) (fun heq => ?_)
      · refine ⟨_, by rw [b6.cell]; rfl, _, by rw [b6.cell]; rfl, _, by rw [b6.cell]; rfl, ?_⟩
        refine (does_ok h6 bs2[n] q4).use ?_
        rintro v w7 ⟨rfl, h7, f7⟩
        refine ⟨_, rfl, ⟨n + 1, _, rfl, by omega, (g5.trans' f6.bel0).trans' (gt f7), h7, ?_, fun i => (keeps T5 _ who hq hne i).trans (hT i)⟩, by dsimp only; omega⟩
        exact o6.fr1 f7 (fun a ha e => o6.ne_blk h6.1 (by decide) a ha e)
      · exact ⟨⟨n + 1, T5, rfl, by omega, g5.trans' f6.bel0, h6, o6, hT⟩, by dsimp only; omega⟩
    · refine cT rfl ?_
      refine (of_ok h5 who).use ?_
      rintro v w6 ⟨A6, c6, rfl, o6, f6⟩
      refine ⟨_, _, _, rfl, ?_⟩
      refine (same_ok o6.rd (o5.rd.fr f6 fun _ _ _ h => h) o6.max).use ?_
      rintro v w7 ⟨rfl, f7⟩
      refine ⟨_, rfl, ?_, ((g5.trans' f6.bel0).trans' f7.bel0).top⟩
      have e : robots T5 who = robots T who := by
        unfold robots
        rw [if_pos hq, if_pos hq]
        exact zones_congr hT
      rw [decide_eq_true e]
end
end Go.Proofs
