/- Ways through time: a plan. -/
import Derived.Test.YtmhjjhpgbafjpaaDoorSpLfree
set_option linter.unusedVariables false
set_option maxRecDepth 100000
namespace Go.Proofs
open Go Go.Eng
theorem app_step {w : World} {ok : Nat → Prop} {A : Option Addr} {c : Nat} {xs : List (Int × Int)} (h : Own w 38 2 ok A xs.length c (rws it2 xs)) (x : Int × Int) (hl : xs.length ≤ 1000000) :
    ∃ A' c' w', (Builtin.append_ #[34, 34] 34 ⟨[.slice A xs.length c, .slice (some ⟨w.heap.size, 0, none⟩) 1 1]⟩).run Tryd.prog (w.alloc (.cells ⟨[.int .i64 x.1, .int .i64 x.2]⟩ 38)) = .ok (.slice A' (xs ++ [x]).length c') w' ∧ Own w' 38 2 (fun k => ok k ∨ w.heap.size ≤ k) A' (xs ++ [x]).length c' (rws it2 (xs ++ [x])) ∧ Fr (ownAt A) w w' := by
  have fa : Fr none1 w (w.alloc (.cells ⟨it2 x⟩ 38)) := Fr.alloc _ _
  have es : (w.alloc (.cells ⟨it2 x⟩ 38)).heap.size = w.heap.size + 1 := by simp
  have lit := Own.lit w 38 2 1 (it2 x) rfl (by simp [maxLen])
  obtain ⟨A', c', w', r, o, f, _⟩ := run_append (ty := 34) (m := 1) (c2 := 1) Est (h.fr fa fun _ _ _ h => h) rfl lit.rd (it2_one x) (by omega) (by simp only [maxLen]; omega)
  refine ⟨A', c', w', by rw [List.length_append]; exact r, ?_, (fa.mono fun _ _ h => h.elim).trans' f⟩
  rw [rws_append, rws_one, List.length_append]
  exact o.mono fun k _ hk => hk.imp id fun h => by omega
section
variable {w : World} {okt : Nat → Prop} {cft : Nat → Int} {f : Fl} {s t m nt : Nat} {from_ start to : Int} {tf : Int → List Wn}
/-- A plan's steps and its errno. -/
def PlanR (B : World) (p : List (Int × Int) × Int) (v : Value) (w' : World) : Prop := ∃ A c, v = .tuple ⟨[.slice A p.1.length c, .int .i64 p.2]⟩ ∧ Own w' 38 2 (from1 B.heap.size) A p.1.length c (rws it2 p.1) ∧ Fr none1 B w'
theorem PlanR.no {B w' : World} (e : Int) (h : Fr none1 B w') : PlanR B ([], e) (.tuple ⟨[.slice none 0 0, .int .i64 e]⟩) w' := ⟨none, 0, rfl, Own.nil _ _ _ _, h⟩
theorem plan_k3 {ok1 ok2 : Nat → Prop} {n : Nat} {cof : Nat → Int} {B w : World} (hf : FOk f) (hfr : 0 ≤ from_ ∧ from_ < (f.C.size : Int)) (hst : 0 ≤ start ∧ start ≤ 1000) (S : Sr w ok1 f s t m from_ start (start + 40)) (M : Mp w m n ok2 cof (runF f from_ start)) (T : Tab w okt cft t nt tf) (hT : ∀ c, tf c = []) (ht : 0 ≤ to ∧ to < (f.C.size : Int)) (hs : ¬ soonF (runF f from_ start to) < 0) (g : Bel B.heap.size B w) :
    S8_k3 from_ to (some ⟨s, 0, none⟩) (soonF (runF f from_ start to)) w (PlanR B ((wayF f from_ (runF f from_ start) (soonF (runF f from_ start to) - start).toNat to (soonF (runF f from_ start to))).reverse, 0)) := by
  have hcan := plan_can hst.2 hfr ht hs
  have hV := runF_inv (start := start) hfr
  have hgl : ∀ c, (runF f from_ start c).length ≤ 1000000 := fun c => by
    obtain ⟨st, V, e⟩ := hV
    rw [← e]
    have := V.gl c
    omega
  refine (first_ok S T (hT from_) (i64r_of (by have := hf.1; omega)) hst).use ?_
  rintro v w1 ⟨rfl, f1⟩
  obtain ⟨p1, p2, p3, p4, p5, p6, b2, f2⟩ := cp3 w1 58 (.int .i64 0) (.int .i64 0) (.int .i64 0) (.int .i64 from_) (.int .i64 start) (.int .i64 1048576)
  refine ⟨_, _, _, rfl, p1, p2, p3, p4, p5, p6, ?_⟩
  have S2 := (S.fr f1 fun _ _ _ h => h).fr f2 fun _ _ _ h => h
  have M2 := (M.fr f1 fun _ _ _ h => h).fr f2 fun _ _ _ h => h
  have g2 := g.trans' (f1.trans' f2).bel0
  generalize World.setCell _ _ _ = w2 at b2 S2 M2 g2 ⊢
  generalize w1.heap.size = X at b2 ⊢
  generalize runF f from_ start = G at hcan hV hgl M2 ⊢
  generalize soonF (G to) = now0 at hcan ⊢
  have htop : ∀ {w'}, Fr none1 w2 w' → Bel B.heap.size B w' := fun h => g2.trans' h.bel0
  refine ⟨fun s' w' => ∃ (at_ now : Int) (out : List (Int × Int)) (A : Option Addr) (c : Nat), s' = (now, (A, out.length, c), at_, ()) ∧ Can f from_ start G at_ now ∧ out ++ wayF f from_ G (now - start).toNat at_ now = wayF f from_ G (now0 - start).toNat to now0 ∧ (out.length : Int) + (now - start) ≤ 40 ∧ Own w' 38 2 (from1 w2.heap.size) A out.length c (rws it2 out) ∧ Fr none1 w2 w', fun s' _ => (s'.1 - start).toNat, ⟨to, now0, [], none, 0, rfl, hcan, rfl, by have := hcan.2.2.1; simp only [List.length_nil]; omega, Own.nil _ _ _ _, Fr.refl _ _⟩, ?_⟩
  rintro J s' w3 ⟨at_, now, out, A, c, rfl, hc, hw, hlen, o3, f3⟩
  dsimp only
  have hc1 := hc.1
  have hc2 := hc.2.1
  have hc3 := hc.2.2.1
  have hC := hf.1
  refine cN (fun hne => ?_) (fun he => ?_)
  · obtain ⟨h1, h2⟩ := hc.back hV hne
    refine cT rfl ?_
    refine (came_ok (S2.fr f3 fun _ _ _ h => h) (M2.fr f3 fun _ _ _ h => h) hc1 hC (by omega) hgl).use ?_
    rintro v w4 ⟨rfl, f4⟩
    have o4 := o3.fr f4 fun _ _ _ h => h
    refine ⟨_, rfl, cT (decide_eq_true h2.1.1) ?_⟩
    obtain ⟨A5, c5, w5, r5, o5, f5⟩ := app_step o4 (at_, now) (by omega)
    refine ⟨A5, _, c5, w5, r5, ?_⟩
    rw [IntWalk.i64_in _ (by omega)]
    have hA : ∀ k, ownAt A k → w2.heap.size ≤ k := fun k ⟨a, ha, e⟩ => e ▸ (o4.has a ha).1
    have s4 := f4.size
    have s3 := f3.size
    refine ⟨⟨_, _, out ++ [(at_, now)], A5, c5, rfl, h2, ?_, by rw [List.length_append]; simp only [List.length_cons, List.length_nil]; omega, o5.mono fun k _ h => h.elim id fun h => Nat.le_trans (Nat.le_trans s3 s4) h, (f3.trans' f4).trans f5 fun k hk h => by have := hA k h; omega⟩, by dsimp only; omega⟩
    rw [← hw, List.append_assoc]
    congr 1
    rw [show (now - start).toNat = (now - 1 - start).toNat + 1 by omega]
    show _ = (if at_ = from_ then [] else _)
    rw [if_neg hne]
    rfl
  · subst he
    have b3 := b2.fr f3 fun h => h
    refine ⟨1048576, by rw [add_g]; exact b3.cell 2, cF (decide_eq_false (by omega)) ?_⟩
    rw [way_from, List.append_nil] at hw
    subst hw
    refine (rev_ok o3 (by omega)).use ?_
    rintro v w4 ⟨rfl, o4, f4⟩
    refine ⟨rfl, A, c, by rw [List.length_reverse], by rw [List.length_reverse]; exact o4.mono fun k _ h => Nat.le_trans g2.size h, ((htop f3).trans' (f4.bel fun k ⟨a, ha, e⟩ => ?_)).top⟩
    have h2 : w2.heap.size ≤ a.block := (o3.has a ha).1
    have := g2.size
    omega
theorem plan_ok (hf : FOk f) (T : Tab w okt cft t nt tf) (hT : ∀ c, tf c = []) (hst : 0 ≤ start ∧ start ≤ 1000) (from_ to : Int) : Ret Tryd.prog 8 [fval f, .pointer (some ⟨t, 0, none⟩), .int .i64 from_, .int .i64 start, .int .i64 to, .int .i64 40] w (PlanR w (planV f from_ start to)) := by
  apply S8_calls
  have b0 := Blk.new w 25 (fcell f)
  have f0 : Fr none1 w (w.alloc (.cells ⟨fcell f⟩ 25)) := Fr.alloc _ _
  refine ⟨_, b0.cell 0, _, b0.cell 1, _, b0.cell 2, ?_⟩
  refine (of_ok hf from_ start (by omega) _).use ?_
  rintro v w2 ⟨hv, f2⟩
  have b2 := b0.fr f2 fun h => h
  have f02 := f0.trans' f2
  have e1 : ∀ {p}, p → (ofB f from_ start = false ∨ ¬ (0 ≤ to ∧ to < (f.C.size : Int)) ∨ kdF f.C to.toNat = 1) → planV f from_ start to = ([], 1) := fun _ h => by unfold planV; rw [if_pos h]
  cases ho : ofB f from_ start with
  | false =>
    rw [ho, if_neg (by decide)] at hv
    rw [e1 trivial (.inl ho)]
    exact ⟨none, false, by rw [hv], cT rfl (cT rfl (PlanR.no 1 f02))⟩
  | true =>
    rw [ho, if_pos rfl] at hv
    obtain ⟨s, m, rfl, hm, hs, S2, M2⟩ := hv
    refine ⟨_, true, rfl, cF rfl ?_⟩
    have far : Ret Tryd.prog 16 [.int .i64 40] w2 fun v w' => v = .bool true ∧ w' = w2 := by
      apply S16_calls
      exact cT rfl ⟨rfl, rfl⟩
    refine far.use ?_
    rintro v w3 ⟨rfl, rfl⟩
    refine ⟨true, rfl, cF rfl ?_⟩
    refine cD (fun h => by rw [e1 trivial (.inr (.inl (by omega)))]; exact cT rfl (PlanR.no 1 f02)) fun h1 => ⟨_, b2.cell 2, cD (fun h => by rw [e1 trivial (.inr (.inl (by omega)))]; exact cT rfl (PlanR.no 1 f02)) fun h2 => ?_⟩
    obtain ⟨ch, hc⟩ := ba_get (C := f.C) (i := to.toNat) (by omega)
    have hk := kdF_get hc
    have hw := kdB_wall ch
    refine ⟨_, b2.cell 2, ch, by omega, hc, ?_⟩
    by_cases hwall : ch.toNat = 35
    · rw [decide_eq_true (show ((ch.toNat : Nat) : Int) = 35 by omega), e1 trivial (.inr (.inr (by rw [hk]; exact hw.2 hwall)))]
      exact cT rfl (PlanR.no 1 f02)
    · rw [decide_eq_false (show ¬ ((ch.toNat : Nat) : Int) = 35 by omega)]
      refine cF rfl ?_
      have e2 : planV f from_ start to = if to = from_ then ([], 0) else if soonF (runF f from_ start to) < 0 then ([], 2) else ((wayF f from_ (runF f from_ start) (soonF (runF f from_ start to) - start).toNat to (soonF (runF f from_ start to))).reverse, 0) := by
        conv => lhs; unfold planV
        rw [if_neg]
        rintro (h | h | h)
        · rw [ho] at h; cases h
        · exact h ⟨by omega, by omega⟩
        · rw [hk] at h; exact hwall (hw.1 h)
      rw [e2]
      refine cD (fun h => ?_) (fun hne => ?_)
      · rw [if_pos h]
        exact PlanR.no 0 f02
      · rw [if_neg hne]
        have hfr : 0 ≤ from_ ∧ from_ < (f.C.size : Int) := by
          unfold ofB at ho
          simp only [Bool.and_eq_true, decide_eq_true_eq] at ho
          exact ⟨ho.1.1, ho.1.2.1⟩
        have ht : 0 ≤ to ∧ to < (f.C.size : Int) := ⟨by omega, by omega⟩
        have T2 : Tab w3 (fun k => k < w.heap.size) cft t nt tf := (T.mono fun k hk _ => hk).fr f02 fun _ _ _ h => h
        have s0 := f0.size
        refine (run_ok S2 M2 (B := w.heap.size) ⟨Nat.le_trans s0 hm, hs⟩ T2 hT hf.1 hfr hst).use ?_
        rintro v w4 ⟨rfl, ⟨ok1, ok2, n, cof, S4, M4⟩, g4⟩
        refine ⟨rfl, ?_⟩
        have T4 := T2.fr g4 fun k _ h h' => by have h' : w.heap.size ≤ k := h'; omega
        have hC := hf.1
        have hgl : (runF f from_ start to).length ≤ 1000000 := by
          obtain ⟨st, V, e⟩ := runF_inv (start := start) hfr
          rw [← e]
          have := V.gl to
          omega
        refine (soon_ok S4 M4 to (i64r_of (by omega)) hgl).use ?_
        rintro v w5 ⟨rfl, f5⟩
        have S5 := S4.fr f5 fun _ _ _ h => h
        have M5 := M4.fr f5 fun _ _ _ h => h
        have T5 := T4.fr f5 fun _ _ _ h => h
        have g5 : Bel w.heap.size w w5 := f02.bel0.trans' (g4.trans' f5.bel0)
        refine ⟨_, rfl, cD (fun h => ?_) (fun h => ?_)⟩
        · rw [if_pos h]
          exact PlanR.no 2 g5.top
        · rw [if_neg h]
          exact plan_k3 hf hfr hst S5 M5 T5 hT ht h g5
end
end Go.Proofs
