import Derived.Test.YtgcoecbbgipgpaaHeapF
set_option linter.unusedVariables false
namespace Go.Proofs
open Go Go.Eng
abbrev It := Int × Int
def insI (x : It) : List It → List It
  | [] => [x]
  | e :: S => if e.1 ≤ x.1 then e :: insI x S else x :: e :: S
theorem insE_itm (x : En) : ∀ S, (insE x S).map itm = insI (itm x) (S.map itm)
  | [] => rfl
  | e :: S => by
    unfold insE
    rw [List.map_cons, insI]
    by_cases h : e.1 ≤ x.1
    · rw [if_pos h, if_pos (show (itm e).1 ≤ (itm x).1 from h), List.map_cons, insE_itm]
    · rw [if_neg h, if_neg (show ¬ (itm e).1 ≤ (itm x).1 from h)]; rfl
theorem insI_len (x : It) : ∀ S, (insI x S).length = S.length + 1
  | [] => rfl
  | e :: S => by
    unfold insI; split
    · rw [List.length_cons, insI_len, List.length_cons]
    · rfl
theorem insI_split (x : It) : ∀ (xs : List It) (k : Nat), k ≤ xs.length → (∀ y ∈ xs.take k, y.1 ≤ x.1) → (∀ y, xs[k]? = some y → ¬ y.1 ≤ x.1) → insI x xs = xs.take k ++ x :: xs.drop k
  | [], k, hk, _, _ => by simp at hk; subst hk; rfl
  | e :: xs, 0, _, _, h => by
    have := h e rfl
    unfold insI; rw [if_neg this]; rfl
  | e :: xs, k + 1, hk, h1, h2 => by
    have he := h1 e (by simp)
    unfold insI
    rw [if_pos he, insI_split x xs k (by simpa using hk) (fun y hy => h1 y (by simp [hy])) (fun y hy => h2 y (by simpa using hy))]
    rfl
def hdI : List It → It
  | [] => (0, 0)
  | e :: _ => e
def topI (xs : List It) : Value := .tuple ⟨[.agg ⟨it2 (hdI xs)⟩, .bool (!xs.isEmpty)]⟩
theorem topV_itm (S : List En) : topV S = topI (S.map itm) := by
  cases S <;> rfl
def sumI (xs ys : List It) : List It := ys.foldl (fun s x => insI x s) xs
theorem pushAll_itm : ∀ (ys : List It) (n : Nat) (S : List En), (pushAll ys n S).map itm = sumI (S.map itm) ys
  | [], n, S => rfl
  | y :: ys, n, S => by rw [pushAll, pushAll_itm, insE_itm]; rfl
def tyR (B : Nat) (w : World) : Nat → Prop := fun k => bw B w k ∧ hasTy w [32] k
/-- The document's heap. -/
def RefAt (B : Nat) (w : World) (r : Nat) (xs : List It) : Prop :=
  bw B w r ∧ ∃ A c, Blk w r 29 [.slice A xs.length c] ∧ Rd w (tyR B w) A (rws it2 xs) ∧ xs.length ≤ c
theorem RefAt.frT {B : Nat} {w w' : World} {r : Nat} {xs : List It} {F : Nat → Prop} (h : RefAt B w r xs) (hf : Fr F w w') (hF : ∀ k, k < w.heap.size → F k → ¬ hasTy w [29, 32] k) : RefAt B w' r xs := by
  obtain ⟨hb, A, c, j1, j2, j3⟩ := h
  have wide : ∀ k, hasTy w [32] k → hasTy w [29, 32] k := fun k ⟨cur, t, h1, h2⟩ => ⟨cur, t, h1, by simp at h2; simp [h2]⟩
  refine ⟨bw_mono hf.size hb, A, c, j1.fr hf (fun hk => hF _ j1.lt hk (j1.hasTy (by decide))), ?_, j3⟩
  rcases j2 with h | ⟨a, ha, hok, hc⟩
  · exact .inl h
  · have hno : ¬ F a.block := fun hk => hF _ hok.1.2 hk (wide _ hok.2)
    exact .inr ⟨a, ha, ⟨bw_mono hf.size hok.1, (hf.hasTy hok.1.2 hno).2 hok.2⟩, fun j v hv => by rw [hf.cell (by rw [add_block]; exact hok.1.2) (by rw [add_block]; exact hno)]; exact hc j v hv⟩
theorem RefAt.fr0 {B : Nat} {w w' : World} {r : Nat} {xs : List It} (h : RefAt B w r xs) (hf : Fr none1 w w') : RefAt B w' r xs := h.frT hf fun k _ h => h.elim
def refF (B : Nat) (w : World) : Nat → Prop := fun k => bw B w k ∧ hasTy w [29] k
theorem refF_bel {B : Nat} {w w' : World} (h : Fr (refF B w) w w') : Bel B w w' := h.bel fun k hk => hk.1.1
theorem refF_no {B : Nat} {w : World} {ts : List Nat} (h1 : 29 ∉ ts) : ∀ k, refF B w k → ¬ hasTy w ts k := fun k ⟨_, cur, t, a, b⟩ ⟨cur', t', c, d⟩ => by
  rw [a] at c
  simp at c
  obtain ⟨_, rfl⟩ := c
  simp at b
  subst b
  exact h1 d
theorem ref_peek {B : Nat} {w : World} {r : Nat} {xs : List It} (h : RefAt B w r xs) : Ret Try.prog 18 [.pointer (some ⟨r, 0, none⟩)] w fun v w' => v = topI xs ∧ Fr none1 w w' := by
  apply S18_calls
  have f0 : Fr none1 w (w.alloc (.cells ⟨[.int .i64 0, .int .i64 0]⟩ 32)) := Fr.alloc _ _
  have b0 := Blk.new w 32 [.int .i64 0, .int .i64 0]
  obtain ⟨hb, A, c, j1, j2, j3⟩ := h.fr0 f0
  refine ⟨_, rfl, A, _, c, (j1.cell 0).trans rfl, ?_⟩
  cases xs with
  | nil =>
    obtain ⟨p1, p2, p3, p4, b1, f1⟩ := b0.wr2 (.int .i64 0) (.int .i64 0)
    exact cT rfl ⟨p1, p2, p3, p4, 0, (b1.cell 0).trans rfl, 0, (b1.cell 1).trans rfl, rfl, f0.trans f1 fun k hk e => by subst e; omega⟩
  | cons e xs =>
    obtain ⟨p, rfl, _, hc⟩ := j2.elem it2_len (i := 0) (a := e) rfl (by decide)
    have hc0 := hc 0 _ (by decide) rfl
    rw [add_zero'] at hc0
    obtain ⟨p1, p2, p3, p4, b1, f1⟩ := b0.wr2' (.int .i64 e.1) (.int .i64 e.2)
    exact cF (by simp; omega) ⟨_, rfl, _, _, c, (j1.cell 0).trans rfl, _, rfl, by omega, by simp, e.1, hc0, e.2, hc 1 _ (by decide) rfl, p1, p2, p3, p4, e.1, (b1.cell 0).trans rfl, e.2, by rw [add_g]; exact (b1.cell 1).trans rfl, rfl, f0.trans f1 fun k hk e => by subst e; omega⟩
theorem RefAt.of {B : Nat} {w w' : World} {r c : Nat} {xs : List It} {A : Option Addr} (hb : bw B w r) (f : Fr (refF B w) w w') (h1 : Blk w' r 29 [.slice A xs.length c]) (h2 : Rd w' (tyR B w) A (rws it2 xs)) (h3 : xs.length ≤ c) : RefAt B w' r xs := by
  refine ⟨bw_mono f.size hb, A, c, h1, h2.mono fun k _ hk => ⟨bw_mono f.size hk.1, (f.hasTy hk.1.2 (fun h => refF_no (ts := [32]) (by decide) k h hk.2)).2 hk.2⟩, h3⟩
theorem ref_pop {B : Nat} {w : World} {r : Nat} {xs : List It} (h : RefAt B w r xs) : Ret Try.prog 14 [.pointer (some ⟨r, 0, none⟩)] w fun v w' => v = topI xs ∧ RefAt B w' r xs.tail ∧ Fr (refF B w) w w' := by
  apply S14_calls
  have f0 : Fr none1 w (w.alloc (.cells ⟨[.int .i64 0, .int .i64 0]⟩ 32)) := Fr.alloc _ _
  have b0 := Blk.new w 32 [.int .i64 0, .int .i64 0]
  have h0 := h.fr0 f0
  refine (ref_peek h0).use ?_
  rintro v w1 ⟨rfl, f1⟩
  have b1 := b0.fr f1 (fun h => h)
  obtain ⟨p1, p2, p3, p4, b2, f2⟩ := cp2 w1 32 (.int .i64 0) (.int .i64 0) (.int .i64 (hdI xs).1) (.int .i64 (hdI xs).2)
  refine ⟨_, _, _, rfl, p1, p2, p3, p4, ?_⟩
  have hx0 : w.heap.size < w1.heap.size := b1.lt
  generalize World.setCell _ _ _ = w2 at b2 f2 ⊢
  have hx : w1.heap.size < w2.heap.size := b2.lt
  generalize w1.heap.size = x at b2 hx hx0 ⊢
  have b1' := b1.fr f2 (fun h => h)
  have f02 := (f0.trans' f1).trans' f2
  obtain ⟨hb, A, c, j1, j2, j3⟩ := h
  have j1' := j1.fr f02 (fun h => h)
  have j2' := j2.fr f02 (fun _ _ _ h => h)
  -- the end, from a world that holds the local blocks
  have fin : ∀ (w3 : World) (A' : Option Addr) (c' : Nat), Blk w3 x 32 [.int .i64 (hdI xs).1, .int .i64 (hdI xs).2] → Blk w3 w.heap.size 32 [.int .i64 0, .int .i64 0] → Blk w3 r 29 [.slice A' xs.tail.length c'] → Rd w3 (tyR B w) A' (rws it2 xs.tail) → xs.tail.length ≤ c' → Fr (refF B w) w w3 →
      S14_k0 ⟨w.heap.size, 0, none⟩ ⟨x, 0, none⟩ (!xs.isEmpty) w3 (fun v w' => v = topI xs ∧ RefAt B w' r xs.tail ∧ Fr (refF B w) w w') := by
    intro w3 A' c' c2 c1 k1 k2 k3 f3
    obtain ⟨q1, q2, q3, q4, b4, f4⟩ := c1.wr2' (.int .i64 (hdI xs).1) (.int .i64 (hdI xs).2)
    have f5 : Fr (refF B w) w _ := f3.trans f4 fun k hk e => by subst e; omega
    refine ⟨_, (c2.cell 0).trans rfl, _, by rw [add_g]; exact (c2.cell 1).trans rfl, q1, q2, q3, q4, _, (b4.cell 0).trans rfl, _, by rw [add_g]; exact (b4.cell 1).trans rfl, rfl, RefAt.of hb f5 (k1.fr f4 (fun e => by have := hb.2; omega)) (k2.fr f4 fun k _ hk e => by subst e; exact absurd hk.1.2 (Nat.lt_irrefl _)) k3, f5⟩
  cases xs with
  | nil => exact cF rfl (fin w2 A c b2 b1' j1' j2' j3 (f02.mono fun _ _ h => h.elim))
  | cons e xs =>
    refine cT rfl ⟨_, rfl, A, _, c, (j1'.cell 0).trans rfl, by omega, by simp; omega, _, rfl, j1'.has 0 (by simp), j1'.free 0, ?_⟩
    have hs : Fr (fun k => k = r) w2 (w2.setCell ⟨r, 0, none⟩ (.slice (slAddr A c (Int.toNat 1) 2) ((e :: xs).length - Int.toNat 1) (c - Int.toNat 1))) := Fr.setCell (F := fun k => k = r) w2 rfl _
    have hty := j1.hasTy (ts := [29]) (by decide)
    simp only [List.length_cons] at j3
    refine fin _ (slAddr A c 1 2) (c - 1) (b2.fr hs (fun e => by have := hb.2; omega)) (b1'.fr hs (fun e => by have := hb.2; omega)) (j1'.set 0 _) ?_ (by simp; omega) ((f02.mono fun _ _ h => h.elim).trans hs fun k hk e => by subst e; exact ⟨hb, hty⟩)
    have d := (j2'.drop (m := c) (l := 1) (sz := 2) (by rw [rws_length it2_len]; simp; omega)).fr hs fun k hk ho e => by subst e; exact (j1.notTy (ts := [32]) (by decide)) ho.2
    have e1 := rws_drop it2_len (e :: xs) 1
    rw [e1] at d
    exact d
theorem ref_push {B : Nat} {w : World} {r : Nat} {xs : List It} (h : RefAt B w r xs) (hB : B ≤ w.heap.size) (hlen : xs.length ≤ 100000) (x : It) : Ret Try.prog 16 [.pointer (some ⟨r, 0, none⟩), .agg ⟨it2 x⟩] w fun v w' => v = .tuple ⟨[]⟩ ∧ RefAt B w' r (insI x xs) ∧ Fr (refF B w) w w' := by
  apply S16_calls
  have f0 : Fr none1 w (w.alloc (.cells ⟨it2 x⟩ 32)) := Fr.alloc _ _
  have b0 := Blk.new w 32 (it2 x)
  obtain ⟨hb, A, c, j1, j2, j3⟩ := h
  refine ⟨fun s w' => ∃ k : Nat, s.1 = (k : Int) ∧ k ≤ xs.length ∧ (∀ y ∈ xs.take k, y.1 ≤ x.1) ∧ Fr none1 w w' ∧ Blk w' w.heap.size 32 (it2 x), fun s _ => xs.length - s.1.toNat, ⟨0, rfl, Nat.zero_le _, by simp, f0, b0⟩, ?_⟩
  rintro J ⟨i, ⟨⟩⟩ w1 ⟨k, hi, hk, hle, f1, b1⟩
  dsimp only at hi ⊢
  subst hi
  have d : Fr none1 w1 w1.drew := Fr.drew w1
  have f2 := f1.trans' d
  have b2 := b1.fr d (fun h => h)
  have k1 := j1.fr f2 (fun h => h)
  have k2 := j2.fr f2 (fun _ _ _ h => h)
  -- where the place is found
  have fin : (∀ y, xs[k]? = some y → ¬ y.1 ≤ x.1) → S16_k3 (some ⟨r, 0, none⟩) ⟨w.heap.size, 0, none⟩ (k : Int) w1.drew (fun v w' => v = .tuple ⟨[]⟩ ∧ RefAt B w' r (insI x xs) ∧ Fr (refF B w) w w') := by
    intro hno
    generalize w1.drew = w2 at f2 b2 k1 k2
    have hw2 : w.heap.size < w2.heap.size := b2.lt
    have a3 : Fr none1 w2 (w2.alloc (.cells ⟨[]⟩ 32)) := Fr.alloc _ _
    have lit : Own (w2.alloc (.cells ⟨[]⟩ 32)) 32 2 (bw w2.heap.size (w2.alloc (.cells ⟨[]⟩ 32))) (some ⟨w2.heap.size, 0, none⟩) 0 0 [] :=
      (Own.lit w2 32 2 0 [] rfl (Nat.zero_le _)).mono fun k hk h => ⟨by omega, hk⟩
    have k1a := k1.fr a3 (fun h => h)
    have k2a := k2.fr a3 (fun _ _ _ h => h)
    refine ⟨_, rfl, A, _, c, (k1a.cell 0).trans rfl, by omega, by omega, ?_⟩
    have e1 : Int.toNat (k : Int) - 0 = k := by simp
    rw [e1, Int.toNat_natCast, slAddr_zero, Nat.sub_zero]
    have len := rws_length it2_len xs
    obtain ⟨A4, c4, w4, r4, o4, f4, g4⟩ := appB (ty := 27) (m := k) (c2 := c) (news := (rws it2 xs).take (k * 2)) E27 lit a3.size (by rw [List.length_take]; omega) (k2a.take (k * 2)) (fun u hu => rws_cells it2_one xs u (List.mem_of_mem_take hu)) (by omega) (by simp only [maxLen]; omega)
    have t24 : Fr none1 w2 w4 := Fr.top (a3.bel0.trans' g4)
    have b4 := b2.fr t24 (fun h => h)
    refine ⟨A4, _, c4, w4, r4, x.1, (b4.cell 0).trans rfl, x.2, by rw [add_g]; exact (b4.cell 1).trans rfl, ?_⟩
    have a5 : Fr none1 w4 (w4.alloc (.cells ⟨it2 x⟩ 32)) := Fr.alloc _ _
    have lit5 := Own.lit w4 32 2 1 (it2 x) rfl (by simp [maxLen])
    have m4 : w2.heap.size ≤ (w4.alloc (.cells ⟨it2 x⟩ 32)).heap.size := Nat.le_trans t24.size a5.size
    obtain ⟨A6, c6, w6, r6, o6, f6, g6⟩ := appB (ty := 27) (m := 1) (c2 := 1) E27 (ownB o4 a5) m4 rfl lit5.rd (it2_one x) (by omega) (by simp only [maxLen]; omega)
    have t26 : Fr none1 w2 w6 := Fr.top (t24.bel0.trans' (a5.bel0.trans' g6))
    have k16 := k1.fr t26 (fun h => h)
    have k26 := k2.fr t26 (fun _ _ _ h => h)
    refine ⟨A6, _, c6, w6, r6, _, rfl, A, _, c, (k16.cell 0).trans rfl, by omega, by omega, ?_⟩
    have rd6 := k26.drop (m := c) (l := k) (sz := 2) (by rw [len]; omega)
    obtain ⟨A7, c7, w7, r7, o7, f7, g7⟩ := appB (ty := 27) (m := xs.length - k) (c2 := c - k) E27 o6 t26.size (by rw [List.length_drop, len]; omega) rd6 (fun u hu => rws_cells it2_one xs u (List.mem_of_mem_drop hu)) (by omega) (by simp only [maxLen]; omega)
    have t27 : Fr none1 w2 w7 := Fr.top (t26.bel0.trans' g7)
    have k17 := k1.fr t27 (fun h => h)
    refine ⟨A7, _, c7, w7, r7, _, rfl, k17.has 0 (by simp), k17.free 0, rfl, ?_, ?_⟩
    all_goals have hs : Fr (fun q => q = r) w7 (w7.setCell ⟨r, 0, none⟩ (.slice A7 (0 + k + 1 + (xs.length - k)) c7)) := Fr.setCell (F := fun q => q = r) w7 rfl _
    · have e2 : insI x xs = xs.take k ++ x :: xs.drop k := insI_split x xs k hk hle hno
      have e3 : (insI x xs).length = 0 + k + 1 + (xs.length - k) := by rw [insI_len]; omega
      have e4 : rws it2 (insI x xs) = [] ++ (rws it2 xs).take (k * 2) ++ it2 x ++ (rws it2 xs).drop (k * 2) := by
        rw [e2, rws_append, rws_take it2_len, rws_drop it2_len, List.nil_append, List.append_assoc]
        rfl
      rw [← e4] at o7
      have o8 := o7.fr1 hs fun a ha e => o7.ne_blk k17 (by decide) a ha e
      have ty8 : ∀ q, q < w7.heap.size → True := fun _ _ => trivial
      refine ⟨bw_mono (Nat.le_trans f2.size (Nat.le_trans t27.size hs.size)) hb, A7, c7, by rw [e3]; exact k17.set 0 _, ?_, by rw [e3]; exact o7.le⟩
      refine (o8.ok (ok' := tyR B _) fun a ha => ?_).rd
      obtain ⟨cur, hc⟩ := o8.obj a ha
      have h9 := o8.has a ha
      exact ⟨⟨by have := h9.1.1; have := f2.size; omega, h9.2⟩, cur, 32, hc, by decide⟩
    · exact ((f2.trans' t27).mono fun _ _ h => h.elim).trans hs fun q hq e => by subst e; exact ⟨hb, j1.hasTy (by decide)⟩
  refine ⟨_, rfl, A, _, c, (k1.cell 0).trans rfl, ?_⟩
  refine cD (fun hlt => ?_) (fun hlt => ?_)
  · have hlt' : k < xs.length := by omega
    have ex : xs[k]? = some xs[k] := List.getElem?_eq_getElem hlt'
    obtain ⟨p, rfl, _, hc⟩ := k2.elem it2_len ex (by decide)
    have hc0 := hc 0 _ (by decide) rfl
    rw [add_zero'] at hc0
    refine ⟨_, rfl, _, _, c, (k1.cell 0).trans rfl, _, rfl, by omega, by omega, xs[k].1, by rw [Int.toNat_natCast]; exact hc0, x.1, (b2.cell 0).trans rfl, ?_⟩
    refine cD (fun hkey => ?_) (fun hkey => ?_)
    · unfold S16_k2
      rw [IntWalk.i64_in ((k : Int) + 1) (by omega)]
      refine ⟨⟨k + 1, rfl, by omega, fun y hy => ?_, f2, b2⟩, by dsimp only; omega⟩
      rw [List.take_add_one, ex] at hy
      simp only [Option.toList, List.mem_append, List.mem_singleton] at hy
      rcases hy with hy | rfl
      · exact hle y hy
      · exact hkey
    · exact fin fun y hy => by rw [ex] at hy; cases hy; exact hkey
  · refine cF rfl (fin fun y hy => ?_)
    have := (List.getElem?_eq_some_iff.1 hy).1
    omega
theorem sumI_snoc (ys : List It) (x : It) (xs : List It) : sumI xs (ys ++ [x]) = insI x (sumI xs ys) := by
  unfold sumI; rw [List.foldl_append]; rfl
theorem sumI_len (ys xs : List It) : (sumI xs ys).length = xs.length + ys.length := by
  induction ys generalizing xs with
  | nil => simp [sumI]
  | cons y ys ih => rw [sumI, List.foldl_cons]; have := ih (insI y xs); rw [sumI] at this; rw [this, insI_len, List.length_cons]; omega
theorem ref_sort {w : World} {ok : Nat → Prop} {A : Option Addr} {c : Nat} {xs : List It} (h : Rd w ok A (rws it2 xs)) (hlen : xs.length ≤ 1000) : Ret Try.prog 22 [.slice A xs.length c] w fun v w' => ∃ A' c', v = .slice A' xs.length c' ∧ Rd w' (tyR w.heap.size w') A' (rws it2 (sorted xs)) ∧ Fr none1 w w' := by
  apply S22_calls
  have f0 : Fr none1 w (w.alloc (.cells ⟨[.slice none 0 0]⟩ 29)) := Fr.alloc _ _
  have r0 : RefAt w.heap.size (w.alloc (.cells ⟨[.slice none 0 0]⟩ 29)) w.heap.size [] := ⟨⟨Nat.le_refl _, by simp⟩, none, 0, Blk.new w 29 _, Rd.nil _ _ _, Nat.le_refl _⟩
  refine ⟨fun s w' => ∃ n : Nat, s.1 = (n : Int) ∧ n ≤ xs.length ∧ RefAt w.heap.size w' w.heap.size (sumI [] (xs.take n)) ∧ Bel w.heap.size w w', fun s _ => xs.length - s.1.toNat, ⟨0, rfl, Nat.zero_le _, r0, f0.bel0⟩, ?_⟩
  rintro J ⟨i, ⟨⟩⟩ w1 ⟨n, hi, hn, r1, g1⟩
  dsimp only at hi ⊢
  subst hi
  refine cD (fun hlt => ?_) (fun hlt => ?_)
  · have ex : xs[n]? = some xs[n] := List.getElem?_eq_getElem (by omega)
    obtain ⟨p, rfl, _, hc⟩ := (h.fr g1.top fun _ _ _ h => h).elem it2_len ex (by decide)
    have hc0 := hc 0 _ (by decide) rfl
    rw [add_zero'] at hc0
    refine ⟨_, rfl, by omega, by omega, _, by rw [Int.toNat_natCast]; exact hc0, _, by rw [Int.toNat_natCast]; exact hc 1 _ (by decide) rfl, ?_⟩
    refine (ref_push r1 g1.size (by rw [sumI_len]; simp; omega) xs[n]).use ?_
    rintro v w2 ⟨rfl, r2, f2⟩
    rw [IntWalk.i64_in ((n : Int) + 1) (by omega)]
    refine ⟨rfl, ⟨n + 1, rfl, by omega, ?_, g1.trans' (refF_bel f2)⟩, by dsimp only; omega⟩
    have e : xs.take (n + 1) = xs.take n ++ [xs[n]] := by rw [List.take_add_one, ex]; rfl
    rw [e, sumI_snoc]
    exact r2
  · have : n = xs.length := by omega
    subst this
    rw [List.take_length] at r1
    obtain ⟨hb, A1, c1, j1, j2, j3⟩ := r1
    have e : sumI [] xs = sorted xs := by unfold sorted; rw [pushAll_itm]; rfl
    rw [e] at j1 j2
    rw [sorted_len] at j1
    exact ⟨_, rfl, A1, _, c1, (j1.cell 0).trans rfl, A1, c1, rfl, j2, g1.top⟩
theorem same_ok {w : World} {ok1 ok2 : Nat → Prop} {A1 A2 : Option Addr} {c1 c2 : Nat} {xs ys : List It} (h1 : Rd w ok1 A1 (rws it2 xs)) (h2 : Rd w ok2 A2 (rws it2 ys)) (hm : xs.length ≤ 1000000) :
    Ret Try.prog 20 [.slice A1 xs.length c1, .slice A2 ys.length c2] w fun v w' => v = .bool (decide (xs = ys)) ∧ Fr none1 w w' := by
  apply S20_calls
  refine cN (fun hl => ?_) (fun hl => ?_)
  · refine ⟨?_, Fr.refl _ _⟩
    rw [decide_eq_false]
    intro e; subst e; exact hl rfl
  · have hl' : xs.length = ys.length := by omega
    refine ⟨fun s w' => ∃ n : Nat, s.1 = (n : Int) ∧ n ≤ xs.length ∧ xs.take n = ys.take n ∧ Fr none1 w w', fun s _ => xs.length - s.1.toNat, ⟨0, rfl, Nat.zero_le _, rfl, Fr.refl _ _⟩, ?_⟩
    rintro J ⟨i, ⟨⟩⟩ w1 ⟨n, hi, hn, ht, f1⟩
    dsimp only at hi ⊢
    subst hi
    refine cD (fun hlt => ?_) (fun hlt => ?_)
    · have f2 := f1.trans' (Fr.drew w1)
      have ex : xs[n]? = some xs[n] := List.getElem?_eq_getElem (by omega)
      have ey : ys[n]? = some (ys[n]'(by omega)) := List.getElem?_eq_getElem (by omega)
      obtain ⟨a1, rfl, _, q1⟩ := (h1.fr f2 fun _ _ _ h => h).elem it2_len ex (by decide)
      obtain ⟨a2, rfl, _, q2⟩ := (h2.fr f2 fun _ _ _ h => h).elem it2_len ey (by decide)
      have q10 := q1 0 _ (by decide) rfl
      have q20 := q2 0 _ (by decide) rfl
      rw [add_zero'] at q10 q20
      refine ⟨_, rfl, by omega, by omega, _, by rw [Int.toNat_natCast]; exact q10, _, by rw [Int.toNat_natCast]; exact q1 1 _ (by decide) rfl, _, rfl, by omega, by omega, _, by rw [Int.toNat_natCast]; exact q20, _, by rw [Int.toNat_natCast]; exact q2 1 _ (by decide) rfl, _, _, item_ne _ _ xs[n] _ _, ?_⟩
      refine cN (fun he => ?_) (fun he => ?_)
      · refine ⟨?_, f2⟩
        rw [decide_eq_false]
        intro e; subst e; exact he rfl
      · rw [IntWalk.i64_in ((n : Int) + 1) (by omega)]
        refine ⟨⟨n + 1, rfl, by omega, ?_, f2⟩, by dsimp only; omega⟩
        rw [List.take_add_one, List.take_add_one, ht, ex, ey, he]
    · have : n = xs.length := by omega
      subst this
      rw [List.take_length, hl', List.take_length] at ht
      exact ⟨by rw [decide_eq_true ht], f1⟩
section
variable {W : World}
theorem cut_ok {A : Option Addr} {l c m : Nat} {xs : List It} (h : Rd W (fun k => k < W.heap.size) A (rws it2 xs)) (hl : xs.length = l) : ∃ n : Nat, (if (m : Int) < ((l : Nat) : Int) then (m : Int) else ((l : Nat) : Int)) = (n : Int) ∧ n ≤ l ∧ n ≤ m ∧ (xs.take n).length = n ∧ Rd W (fun k => k < W.heap.size) A (rws it2 (xs.take n)) := by
  have e : ∃ n : Nat, (if (m : Int) < ((l : Nat) : Int) then (m : Int) else ((l : Nat) : Int)) = (n : Int) ∧ n ≤ l ∧ n ≤ m := by
    split
    · exact ⟨m, rfl, by omega, by omega⟩
    · exact ⟨l, rfl, by omega, by omega⟩
  obtain ⟨n, h1, h2, h3⟩ := e
  refine ⟨n, h1, h2, h3, by simp; omega, ?_⟩
  rw [← rws_take it2_len]
  exact h.take _
theorem heapSorts_ok {A : Option Addr} {l c : Nat} {xs : List It} (h : Rd W (fun k => k < W.heap.size) A (rws it2 xs)) (hl : xs.length = l) (hc : l ≤ c) : Ret Try.prog 6 [.slice A l c] W (Done W) := by
  apply S6_calls
  obtain ⟨n, h1, h2, h3, h4, h5⟩ := cut_ok (m := 500) (c := c) h hl
  unfold S6
  rw [show ((500 : Nat) : Int) = 500 from rfl] at h1
  rw [h1]
  have e1 : Int.toNat (n : Int) - 0 = n := by simp
  rw [e1, slAddr_zero, Nat.sub_zero]
  refine ⟨by omega, by omega, ?_⟩
  refine (shown_ok _).use ?_
  rintro v w1 ⟨rfl, f1⟩
  generalize xs.take n = ys at h4 h5
  subst h4
  refine ⟨_, rfl, cT rfl ?_⟩
  refine (sort_ok (h5.fr f1 fun _ _ _ h => h) (by omega)).use ?_
  rintro v w2 ⟨A2, c2, rfl, o2, f2⟩
  refine ⟨_, _, _, rfl, ?_⟩
  refine (ref_sort (h5.fr (f1.trans' f2) fun _ _ _ h => h) (by omega)).use ?_
  rintro v w3 ⟨A3, c3, rfl, o3, f3⟩
  refine ⟨_, _, _, rfl, ?_⟩
  have s := same_ok (c1 := c2) (c2 := c3) (o2.rd.fr f3 fun _ _ _ h => h) o3 (by rw [sorted_len]; omega)
  rw [sorted_len] at s
  refine s.use ?_
  rintro v w4 ⟨rfl, f4⟩
  exact ⟨_, rfl, by rw [decide_eq_true rfl], f1.trans' (f2.trans' (f3.trans' f4))⟩
end
end Go.Proofs
