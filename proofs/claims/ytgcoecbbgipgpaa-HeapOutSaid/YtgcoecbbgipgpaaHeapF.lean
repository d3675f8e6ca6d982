import Derived.Test.YtgcoecbbgipgpaaHeapE
set_option linter.unusedVariables false
namespace Go.Proofs
open Go Go.Eng
theorem it2_len (p : Int × Int) : (it2 p).length = 2 := rfl
theorem it2_one (p : Int × Int) : ∀ v ∈ it2 p, v.oneCell' = true := by
  intro v hv
  simp [it2] at hv
  rcases hv with rfl | rfl <;> rfl
theorem hpF_bel {B : Nat} {w w' : World} (h : Fr (hpF B w) w w') : Bel B w w' := h.bel fun k hk => hk.1.1
theorem hpF_no {B : Nat} {w : World} {ts : List Nat} (h1 : 52 ∉ ts) (h2 : 56 ∉ ts) : ∀ k, hpF B w k → ¬ hasTy w ts k := fun k ⟨_, cur, t, a, b⟩ ⟨cur', t', c, d⟩ => by
  rw [a] at c
  simp at c
  obtain ⟨_, rfl⟩ := c
  simp at b
  rcases b with rfl | rfl
  · exact h1 d
  · exact h2 d
def ks : List Int := [3, 1, 3, 2]
def st : Nat → List En
  | 0 => []
  | n + 1 => insE (ks.getD n 0, (n : Int), (n : Int)) (st n)
def its : List (Int × Int) := [(1, 1), (2, 3), (3, 0), (3, 2)]
theorem shown_ok (w : World) : Ret Try.prog 10 [] w fun v w' => v = .bool true ∧ Fr none1 w w' := by
  apply S10_calls
  refine (new_ok w (Nat.le_refl _)).use ?_
  rintro v w1 ⟨hp, rfl, h1, f1⟩
  refine ⟨_, rfl, cF rfl ?_⟩
  have a2 : Fr none1 w1 (w1.alloc (.cells ⟨ints ks⟩ 3)) := Fr.alloc _ _
  have lit2 := (Own.lit w1 3 1 4 (ints ks) rfl (by simp [maxLen])).mono (ok' := fun k => k < (w1.alloc (.cells ⟨ints ks⟩ 3)).heap.size) fun k hk _ => hk
  have h2 := h1.fr0 a2
  have g2 : Bel w.heap.size w (w1.alloc (.cells ⟨ints ks⟩ 3)) := f1.bel0.trans' a2.bel0
  refine ⟨fun s w' => ∃ n : Nat, s.1 = (n : Int) ∧ n ≤ 4 ∧ HeapIs w.heap.size w' hp (st n) n ∧ Bel w.heap.size w w' ∧ Own w' 3 1 (fun _ => True) (some ⟨w1.heap.size, 0, none⟩) 4 4 (ints ks), fun s _ => 4 - s.1.toNat, ⟨0, rfl, by omega, h2, g2, lit2.mono fun _ _ _ => trivial⟩, ?_⟩
  rintro J ⟨i, ⟨⟩⟩ w3 ⟨n, hi, hn, h3, g3, o3⟩
  dsimp only at hi ⊢
  subst hi
  refine cD (fun hlt => ?_) (fun hlt => ?_)
  · have hn' : n < 4 := by omega
    have ex : ks[n]? = some (ks.getD n 0) := by
      rw [List.getD_eq_getElem?_getD, List.getElem?_eq_getElem (by simpa [ks] using hn')]; rfl
    obtain ⟨a, ha, _, hc⟩ := o3.rd.at (ints_get ex)
    refine ⟨a, ha, by omega, by omega, _, by rw [Int.toNat_natCast, Nat.mul_one]; exact hc, ?_⟩
    refine (push_ok h3 g3.size (by omega) (ks.getD n 0, (n : Int))).use ?_
    rintro v w4 ⟨rfl, h4, f4⟩
    rw [IntWalk.i64_in ((n : Int) + 1) (by omega)]
    refine ⟨rfl, ⟨n + 1, rfl, by omega, h4, g3.trans' (hpF_bel f4), o3.fr1 f4 fun a ha hk => hpF_no (ts := [3]) (by decide) (by decide) _ hk (by obtain ⟨cur, hc⟩ := o3.obj a ha; exact ⟨cur, 3, hc, by decide⟩)⟩, by dsimp only; omega⟩
  · have : n = 4 := by omega
    subst this
    have a4 : Fr none1 w3 (w3.alloc (.cells ⟨rws it2 its⟩ 32)) := Fr.alloc _ _
    have lit4 := Own.lit w3 32 2 4 (rws it2 its) rfl (by simp [maxLen])
    refine ⟨fun s w' => ∃ n : Nat, s.1 = (n : Int) ∧ n ≤ 4 ∧ HeapIs w.heap.size w' hp ((st 4).drop n) 4 ∧ Bel w.heap.size w w' ∧ Own w' 32 2 (fun k => k = w3.heap.size) (some ⟨w3.heap.size, 0, none⟩) 4 4 (rws it2 its), fun s _ => 4 - s.1.toNat, ⟨0, rfl, by omega, h3.fr0 a4, g3.trans' a4.bel0, lit4⟩, ?_⟩
    rintro J ⟨i, ⟨⟩⟩ w5 ⟨n, hi, hn, h5, g5, o5⟩
    dsimp only at hi ⊢
    subst hi
    refine cD (fun hlt => ?_) (fun hlt => ?_)
    · have hn' : n < 4 := by omega
      have ex : its[n]? = some (its.getD n (0, 0)) := by
        rw [List.getD_eq_getElem?_getD, List.getElem?_eq_getElem (by simpa [its] using hn')]; rfl
      have hhd : hd ((st 4).drop n) = its.getD n (0, 0) ∧ ((st 4).drop n).isEmpty = false := by
        have : n = 0 ∨ n = 1 ∨ n = 2 ∨ n = 3 := by omega
        rcases this with rfl | rfl | rfl | rfl <;> decide
      obtain ⟨e1, e2⟩ := hhd
      obtain ⟨gb, hgb, _, hc⟩ := o5.elem it2_len ex (by decide)
      have hc0 := hc 0 _ (by decide) rfl
      rw [add_zero'] at hc0
      refine ⟨_, hgb, by omega, by omega, _, by rw [Int.toNat_natCast]; exact hc0, _, by rw [Int.toNat_natCast]; exact hc 1 _ (by decide) rfl, ?_⟩
      generalize its.getD n (0, 0) = y at e1 ⊢
      obtain ⟨p1, p2, p3, p4, b6, f6⟩ := cp2 w5 32 (.int .i64 0) (.int .i64 0) (.int .i64 y.1) (.int .i64 y.2)
      refine ⟨p1, p2, p3, p4, ?_⟩
      generalize World.setCell _ _ _ = w6 at b6 f6 ⊢
      refine (pop_ok (h5.fr0 f6) (by omega)).use ?_
      rintro v w7 ⟨rfl, h7, f7⟩
      refine ⟨_, _, _, rfl, ?_⟩
      rw [e1, e2]
      obtain ⟨r1, r2, r3, r4, b8, f8⟩ := cp2 w7 32 (.int .i64 0) (.int .i64 0) (.int .i64 y.1) (.int .i64 y.2)
      refine ⟨r1, r2, r3, r4, ?_⟩
      have b7 := (b6.fr f7 (fun h => hpF_no (ts := [32]) (by decide) (by decide) _ h (b6.hasTy (by decide)))).fr f8 (fun h => h)
      refine ⟨y.1, (b8.cell 0).trans rfl, y.2, (b8.cell 1).trans rfl, y.1, (b7.cell 0).trans rfl, y.2, (b7.cell 1).trans rfl, _, _, item_ne _ _ y y _, ?_⟩
      have o8 := ((o5.fr f6 (fun _ _ _ h => h)).fr1 f7 fun a ha hk => hpF_no (ts := [32]) (by decide) (by decide) _ hk (by obtain ⟨cur, hc⟩ := (o5.fr f6 (fun _ _ _ h => h)).obj a ha; exact ⟨cur, 32, hc, by decide⟩)).fr f8 (fun _ _ _ h => h)
      refine cF (by simp) (cF rfl ?_)
      rw [IntWalk.i64_in ((n : Int) + 1) (by omega)]
      refine ⟨⟨n + 1, rfl, by omega, ?_, ((g5.trans' f6.bel0).trans' (hpF_bel f7)).trans' f8.bel0, o8⟩, by dsimp only; omega⟩
      have := h7.fr0 f8
      rwa [List.tail_drop] at this
    · have : n = 4 := by omega
      subst this
      refine (len_ok h5).use ?_
      rintro v w6 ⟨rfl, rfl⟩
      exact ⟨_, rfl, rfl, g5.top⟩
/-! ### HeapNil -/
def Done (W : World) : Value → World → Prop := fun v w' => v = .bool true ∧ Fr none1 W w'
/-- Items that stand somewhere. -/
def ItemsAt (w : World) (A : Option Addr) (xs : List (Int × Int)) : Prop := Rd w (fun k => k < w.heap.size) A (rws it2 xs)
def pushAll : List (Int × Int) → Nat → List En → List En
  | [], _, S => S
  | x :: xs, n, S => pushAll xs (n + 1) (insE (x.1, x.2, (n : Int)) S)
theorem pushAll_len : ∀ (xs : List (Int × Int)) (n : Nat) (S : List En), (pushAll xs n S).length = xs.length + S.length
  | [], _, S => by simp [pushAll]
  | x :: xs, n, S => by rw [pushAll, pushAll_len, insE_len, List.length_cons]; omega
theorem pushAll_snoc : ∀ (xs : List (Int × Int)) (x : Int × Int) (n : Nat) (S : List En), pushAll (xs ++ [x]) n S = insE (x.1, x.2, ((n + xs.length : Nat) : Int)) (pushAll xs n S)
  | [], x, n, S => rfl
  | y :: xs, x, n, S => by
    rw [List.cons_append, pushAll, pushAll_snoc, pushAll, List.length_cons, show n + 1 + xs.length = n + (xs.length + 1) by omega]
def itm (e : En) : Int × Int := (e.1, e.2.1)
def sorted (xs : List (Int × Int)) : List (Int × Int) := (pushAll xs 0 []).map itm
theorem sorted_len (xs : List (Int × Int)) : (sorted xs).length = xs.length := by simp [sorted, pushAll_len]
theorem E27 : ElT Try.prog 27 32 2 16 := elT_of (by kernel_rfl)
theorem sort_ok {w : World} {ok : Nat → Prop} {A : Option Addr} {c : Nat} {xs : List (Int × Int)} (h : Rd w ok A (rws it2 xs)) (hlen : xs.length ≤ 1000) : Ret Try.prog 21 [.slice A xs.length c] w fun v w' => ∃ A' c', v = .slice A' xs.length c' ∧ Own w' 32 2 (bw w.heap.size w') A' xs.length c' (rws it2 (sorted xs)) ∧ Fr none1 w w' := by
  apply S21_calls
  refine (new_ok w (Nat.le_refl _)).use ?_
  rintro v w1 ⟨hp, rfl, h1, f1⟩
  refine ⟨_, rfl, ?_⟩
  refine ⟨fun s w' => ∃ n : Nat, s.1 = (n : Int) ∧ n ≤ xs.length ∧ HeapIs w.heap.size w' hp (pushAll (xs.take n) 0 []) n ∧ Bel w.heap.size w w', fun s _ => xs.length - s.1.toNat, ⟨0, rfl, Nat.zero_le _, h1, f1.bel0⟩, ?_⟩
  rintro J ⟨i, ⟨⟩⟩ w2 ⟨n, hi, hn, h2, g2⟩
  dsimp only at hi ⊢
  subst hi
  refine cD (fun hlt => ?_) (fun hlt => ?_)
  · have ex : xs[n]? = some xs[n] := List.getElem?_eq_getElem (by omega)
    obtain ⟨p, rfl, _, hc⟩ := (h.fr g2.top fun _ _ _ h => h).elem it2_len ex (by decide)
    have hc0 := hc 0 _ (by decide) rfl
    rw [add_zero'] at hc0
    refine ⟨_, rfl, by omega, by omega, _, by rw [Int.toNat_natCast]; exact hc0, _, by rw [Int.toNat_natCast]; exact hc 1 _ (by decide) rfl, ?_⟩
    obtain ⟨p1, p2, p3, p4, b3, f3⟩ := cp2 w2 32 (.int .i64 0) (.int .i64 0) (.int .i64 xs[n].1) (.int .i64 xs[n].2)
    refine ⟨p1, p2, p3, p4, ?_⟩
    generalize World.setCell _ _ _ = w3 at b3 f3 ⊢
    refine ⟨_, (b3.cell 0).trans rfl, _, (b3.cell 1).trans rfl, ?_⟩
    refine (push_ok (h2.fr0 f3) (Nat.le_trans g2.size f3.size) (by omega) xs[n]).use ?_
    rintro v w4 ⟨rfl, h4, f4⟩
    rw [IntWalk.i64_in ((n : Int) + 1) (by omega)]
    refine ⟨rfl, ⟨n + 1, rfl, by omega, ?_, (g2.trans' f3.bel0).trans' (hpF_bel f4)⟩, by dsimp only; omega⟩
    have e : xs.take (n + 1) = xs.take n ++ [xs[n]] := by rw [List.take_add_one, ex]; rfl
    rw [e, pushAll_snoc, List.length_take, Nat.min_eq_left hn, Nat.zero_add]
    exact h4
  · have : n = xs.length := by omega
    subst this
    rw [List.take_length] at h2
    refine ⟨fun s w' => ∃ n : Nat, s.2.1 = (n : Int) ∧ n ≤ xs.length ∧ s.1.2.1 = n ∧ HeapIs w.heap.size w' hp ((pushAll xs 0 []).drop n) xs.length ∧ Own w' 32 2 (bw w.heap.size w') s.1.1 n s.1.2.2 (rws it2 ((sorted xs).take n)) ∧ Bel w.heap.size w w', fun s _ => xs.length - s.2.1.toNat, ⟨0, rfl, Nat.zero_le _, rfl, h2, Own.nil _ _ _ _, g2⟩, ?_⟩
    rintro J ⟨⟨A3, l3, c3⟩, i, ⟨⟩⟩ w3 ⟨n, hi, hn, hl, h3, o3, g3⟩
    dsimp only at hi hl o3 ⊢
    subst hi hl
    refine cD (fun hlt => ?_) (fun hlt => ?_)
    · refine (pop_ok h3 (by omega)).use ?_
      rintro v w4 ⟨rfl, h4, f4⟩
      refine ⟨_, _, _, rfl, ?_⟩
      obtain ⟨p1, p2, p3, p4, b5, f5⟩ := cp2 w4 32 (.int .i64 0) (.int .i64 0) (.int .i64 (hd ((pushAll xs 0 []).drop l3)).1) (.int .i64 (hd ((pushAll xs 0 []).drop l3)).2)
      refine ⟨p1, p2, p3, p4, _, (b5.cell 0).trans rfl, _, (b5.cell 1).trans rfl, ?_⟩
      generalize World.setCell _ _ _ = w5 at b5 f5 ⊢
      have hl2 : l3 < (pushAll xs 0 []).length := by rw [pushAll_len]; simp; omega
      have ehd : it2 (hd ((pushAll xs 0 []).drop l3)) = it2 (itm (pushAll xs 0 [])[l3]) := by
        rw [List.drop_eq_getElem_cons hl2]; rfl
      have f45 : Fr (hpF w.heap.size w3) w3 w5 := f4.trans f5 fun k hk h => h.elim
      have o5 : Own w5 32 2 (bw w.heap.size w5) A3 l3 c3 (rws it2 ((sorted xs).take l3)) := (o3.fr1 f45 fun a ha hk => hpF_no (ts := [32]) (by decide) (by decide) _ hk (by obtain ⟨cur, hc⟩ := o3.obj a ha; exact ⟨cur, 32, hc, by decide⟩)).mono fun k hk h => ⟨h.1, hk⟩
      have g5 := (g3.trans' (hpF_bel f4)).trans' f5.bel0
      have a6 : Fr none1 w5 (w5.alloc (.cells ⟨it2 (hd ((pushAll xs 0 []).drop l3))⟩ 32)) := Fr.alloc _ _
      have lit := Own.lit w5 32 2 1 (it2 (hd ((pushAll xs 0 []).drop l3))) rfl (by simp [maxLen])
      have o6 := ownB o5 a6
      obtain ⟨A', c', w7, r7, o7, f7, g7⟩ := appB (ty := 27) (m := 1) (c2 := 1) E27 o6 (Nat.le_trans g5.size a6.size) rfl lit.rd (it2_one _) (by omega) (by simp only [maxLen]; omega)
      have h5 := (h4.fr0 f5).fr0 a6
      have h7 := h5.frT f7 (fun k hk ⟨a, ha, e⟩ => by subst e; exact o6.notTy (by decide) a ha)
      rw [IntWalk.i64_in ((l3 : Int) + 1) (by omega)]
      refine ⟨A', _, c', w7, r7, ⟨l3 + 1, rfl, by omega, rfl, by rwa [List.tail_drop] at h7, ?_, (g5.trans' a6.bel0).trans' g7⟩, by dsimp only; omega⟩
      have e : (sorted xs).take (l3 + 1) = (sorted xs).take l3 ++ [itm (pushAll xs 0 [])[l3]] := by
        rw [List.take_add_one]
        congr 1
        unfold sorted
        rw [List.getElem?_map, List.getElem?_eq_getElem hl2]; rfl
      rw [e, rws_append, rws_one, ← ehd]
      exact o7
    · have : l3 = xs.length := by omega
      subst this
      rw [List.take_of_length_le (by rw [sorted_len]; exact Nat.le_refl _)] at o3
      exact ⟨A3, c3, rfl, o3, g3.top⟩
theorem heapNil_ok (x : Int × Int) (w : World) : Ret Try.prog 8 [.agg ⟨it2 x⟩] w (Done w) := by
  apply S8_calls
  have f0 : Fr none1 w (w.alloc (.cells ⟨it2 x⟩ 32)) := Fr.alloc _ _
  have b0 := Blk.new w 32 (it2 x)
  show Calls Try.prog 10 ⟨[]⟩ (w.alloc (.cells ⟨it2 x⟩ 32)) _
  generalize w.alloc (.cells ⟨it2 x⟩ 32) = w0 at f0 b0 ⊢
  refine (shown_ok w0).use ?_
  rintro v w1 ⟨rfl, f1⟩
  have b1 := b0.fr f1 (fun h => h)
  refine ⟨_, rfl, x.1, (b1.cell 0).trans rfl, x.2, (b1.cell 1).trans rfl, ?_⟩
  refine (nil_push x w1).use ?_
  rintro v w2 ⟨rfl, f2⟩
  refine ⟨rfl, ?_⟩
  refine (nil_pop w2).use ?_
  rintro v w3 ⟨rfl, f3⟩
  obtain ⟨p1, p2, p3, p4, b4, f4⟩ := cp2 w3 32 (.int .i64 0) (.int .i64 0) (.int .i64 0) (.int .i64 0)
  refine ⟨_, _, _, rfl, p1, p2, p3, p4, ?_⟩
  show Calls Try.prog 17 _ (((w3.alloc (.cells ⟨[.int .i64 0, .int .i64 0]⟩ 32)).setCell ⟨w3.heap.size, 0, none⟩ (.int .i64 0)).setCell ⟨w3.heap.size, 1, none⟩ (.int .i64 0)) _
  generalize ((w3.alloc (.cells ⟨[.int .i64 0, .int .i64 0]⟩ 32)).setCell ⟨w3.heap.size, 0, none⟩ (.int .i64 0)).setCell ⟨w3.heap.size, 1, none⟩ (.int .i64 0) = w4 at b4 f4 ⊢
  refine (nil_peek w4).use ?_
  rintro v w5 ⟨rfl, f5⟩
  obtain ⟨q1, q2, q3, q4, b6, f6⟩ := cp2 w5 32 (.int .i64 0) (.int .i64 0) (.int .i64 0) (.int .i64 0)
  refine ⟨_, _, _, rfl, q1, q2, q3, q4, cT rfl ?_⟩
  show ∃ t25_0, World.cell? (((w5.alloc (.cells ⟨[.int .i64 0, .int .i64 0]⟩ 32)).setCell ⟨w5.heap.size, 0, none⟩ (.int .i64 0)).setCell ⟨w5.heap.size, 1, none⟩ (.int .i64 0)) _ = _ ∧ _
  have b4' := (b4.fr f5 (fun h => h)).fr f6 (fun h => h)
  refine ⟨0, (b4'.cell 0).trans rfl, 0, (b4'.cell 1).trans rfl, _, _, item_eq _ _ (0, 0) (0, 0) _, cT rfl (cT rfl ⟨0, (b6.cell 0).trans rfl, 0, (b6.cell 1).trans rfl, _, _, item_eq _ _ (0, 0) (0, 0) _, cT rfl (cT rfl ?_)⟩)⟩
  refine (nil_len _).use ?_
  rintro v w7 ⟨rfl, rfl⟩
  refine ⟨_, rfl, cT rfl ?_⟩
  refine (sort_ok (xs := []) (c := 0) (A := none) (Rd.nil _ none1 _) (by simp)).use ?_
  rintro v w8 ⟨A8, c8, rfl, o8, f8⟩
  exact ⟨_, _, _, rfl, rfl, f0.trans' (f1.trans' (f2.trans' (f3.trans' (f4.trans' (f5.trans' (f6.trans' f8))))))⟩
end Go.Proofs
