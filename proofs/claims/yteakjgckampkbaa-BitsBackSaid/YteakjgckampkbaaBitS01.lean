/- The law of taking: both readers, side by side. -/
import Derived.Test.YteakjgckampkbaaBitM01
set_option linter.unusedVariables false
namespace Go.Proofs
open Go Go.Eng
/-- The program's reader r and the reference's v, of the same bytes. -/
def Two (B : Nat) (w : World) (r v : Nat) (xs : List UInt8) (i : Nat) (E : Int) (j : Nat) (F : Int) : Prop :=
  ∃ okr okv : Nat → Prop, RdrAt w okr r xs i E ∧ RefAt w okv v (up8 xs) j F ∧ (∀ k, okr k → okv k → False) ∧ (∀ k, okr k → B ≤ k) ∧ (∀ k, okv k → B ≤ k)
def rv (r v : Nat) : Nat → Prop := fun k => k = r ∨ k = v
section
variable {B : Nat} {w : World} {r v : Nat} {xs : List UInt8} {i j : Nat} {E F : Int}
theorem Two.fr {G : Nat → Prop} {w' : World} (h : Two B w r v xs i E j F) (f : Fr G w w') (hG : ∀ k, k < w.heap.size → B ≤ k → ¬ G k) : Two B w' r v xs i E j F := by
  obtain ⟨o1, o2, h1, h2, hd, s1, s2⟩ := h
  exact ⟨o1, o2, h1.fr f fun k hk ho => hG k hk (s1 k ho), h2.fr f fun k hk ho => hG k hk (s2 k ho), hd, s1, s2⟩
theorem Two.fr0 {w' : World} (h : Two B w r v xs i E j F) (f : Fr none1 w w') : Two B w' r v xs i E j F := h.fr f fun _ _ _ h => h
theorem Two.lt (h : Two B w r v xs i E j F) : r < w.heap.size ∧ v < w.heap.size ∧ B ≤ r ∧ B ≤ v := by
  obtain ⟨o1, o2, h1, h2, hd, s1, s2⟩ := h
  exact ⟨h1.lt, h2.lt, s1 _ h1.1, s2 _ h2.1⟩
theorem Two.stepR (h : Two B w r v xs i E j F) {f : Nat} {args : List Value} {Q : Value → Prop} {i' : Nat} {E' : Int}
    (hc : ∀ ok, RdrAt w ok r xs i E → Ret Try.prog f args w fun v w' => Q v ∧ RdrAt w' ok r xs i' E' ∧ Fr (fun k => k = r) w w') : Ret Try.prog f args w fun v' w' => Q v' ∧ Two B w' r v xs i' E' j F ∧ Fr (rv r v) w w' := by
  obtain ⟨o1, o2, h1, h2, hd, s1, s2⟩ := h
  exact (hc o1 h1).imp fun v' w' ⟨q, h1', f⟩ => ⟨q, ⟨o1, o2, h1', h2.fr f fun k _ hk e => by subst e; exact hd _ h1.1 hk, hd, s1, s2⟩, f.mono fun k _ e => .inl e⟩
theorem Two.stepV (h : Two B w r v xs i E j F) {f : Nat} {args : List Value} {Q : Value → Prop} {j' : Nat} {F' : Int}
    (hc : ∀ ok, RefAt w ok v (up8 xs) j F → Ret Try.prog f args w fun v' w' => Q v' ∧ RefAt w' ok v (up8 xs) j' F' ∧ Fr (fun k => k = v) w w') : Ret Try.prog f args w fun v' w' => Q v' ∧ Two B w' r v xs i E j' F' ∧ Fr (rv r v) w w' := by
  obtain ⟨o1, o2, h1, h2, hd, s1, s2⟩ := h
  exact (hc o2 h2).imp fun v' w' ⟨q, h2', f⟩ => ⟨q, ⟨o1, o2, h1.fr f fun k _ hk e => by subst e; exact hd _ hk h2.1, h2', hd, s1, s2⟩, f.mono fun k _ e => .inr e⟩
theorem toB {b : Nat} {a b' : World} (f : Fr none1 a b') : Fr (fun k => k = b) a b' := f.mono fun _ _ h => h.elim
theorem two_left (h : Two B w r v xs i E j F) : Ret Try.prog 26 [.pointer (some ⟨r, 0, none⟩)] w fun x w' => x = .int .i64 (8 * (xs.length : Int) - (i : Int)) ∧ Two B w' r v xs i E j F ∧ Fr (rv r v) w w' :=
  h.stepR (Q := fun x => x = _) fun ok h => (left_ok h).imp fun v w' ⟨a, b, c⟩ => ⟨a, b, toB c⟩
theorem two_end (h : Two B w r v xs i E j F) : Ret Try.prog 27 [.pointer (some ⟨r, 0, none⟩)] w fun x w' => x = .int .i64 (endV ⟨up8 xs, i, E⟩) ∧ Two B w' r v xs i E j F ∧ Fr (rv r v) w w' :=
  h.stepR (Q := fun x => x = _) fun ok h => (end_ok h).imp fun v w' ⟨a, b, c⟩ => ⟨a, b, toB c⟩
theorem two_fend (h : Two B w r v xs i E j F) : Ret Try.prog 28 [.pointer (some ⟨v, 0, none⟩)] w fun x w' => x = .int .i64 (endV ⟨up8 xs, j, F⟩) ∧ Two B w' r v xs i E j F ∧ Fr (rv r v) w w' :=
  h.stepV (Q := fun x => x = _) fun ok h => (fend_ok h).imp fun v w' ⟨a, b, c⟩ => ⟨a, b, toB c⟩
theorem two_get (h : Two B w r v xs i E j F) (m : Int) : Ret Try.prog 24 [.pointer (some ⟨r, 0, none⟩), .int .i64 m] w fun x w' => x = .int .u64 (getV ⟨up8 xs, i, E⟩ m : Int) ∧ Two B w' r v xs (getS ⟨up8 xs, i, E⟩ m).i (getS ⟨up8 xs, i, E⟩ m).E j F ∧ Fr (rv r v) w w' :=
  h.stepR (Q := fun x => x = _) fun ok h => get_ok h m
theorem two_fget (h : Two B w r v xs i E j F) (m : Int) : Ret Try.prog 25 [.pointer (some ⟨v, 0, none⟩), .int .i64 m] w fun x w' => x = .int .u64 (getV ⟨up8 xs, j, F⟩ m : Int) ∧ Two B w' r v xs i E (getS ⟨up8 xs, j, F⟩ m).i (getS ⟨up8 xs, j, F⟩ m).E ∧ Fr (rv r v) w w' :=
  h.stepV (Q := fun x => x = _) fun ok h => fget_ok h m
theorem two_count (h : Two B w r v xs i E j F) : Ret Try.prog 22 [.pointer (some ⟨r, 0, none⟩)] w fun x w' => x = .int .u64 (rcV ⟨up8 xs, i, E⟩ : Int) ∧ Two B w' r v xs (rcS ⟨up8 xs, i, E⟩).i (rcS ⟨up8 xs, i, E⟩).E j F ∧ Fr (rv r v) w w' :=
  h.stepR (Q := fun x => x = _) fun ok h => rcount_ok h
theorem two_fcount (h : Two B w r v xs i E j F) : Ret Try.prog 23 [.pointer (some ⟨v, 0, none⟩)] w fun x w' => x = .int .u64 (rcV ⟨up8 xs, j, F⟩ : Int) ∧ Two B w' r v xs i E (rcS ⟨up8 xs, j, F⟩).i (rcS ⟨up8 xs, j, F⟩).E ∧ Fr (rv r v) w w' :=
  h.stepV (Q := fun x => x = _) fun ok h => frcount_ok h
theorem Two.cells (h : Two B w r v xs i E j F) : (∃ A c, w.cell? ⟨v, 0, none⟩ = some (.slice A (8 * xs.length) c)) ∧ w.cell? ((⟨v, 0, none⟩ : Addr).add 1) = some (.int .i64 (j : Int)) := by
  obtain ⟨o1, o2, h1, h2, hd, s1, s2⟩ := h
  obtain ⟨⟨A, c, c0, _⟩, c1, _⟩ := h2.cells
  rw [up8_length] at c0
  exact ⟨⟨A, c, c0⟩, c1⟩
theorem takes_k8 {W : World} {R : Value → World → Prop} {B1 : Int × Unit → World → Prop} {A : Option Addr} {l c : Nat} {n a : Int} {cnt : Nat} (h : Two B w r v xs i E i E) (hcnt : (cnt : Int) + 1 ≤ 1000)
    (k : ∀ w', Two B w' r v xs i E i E → Fr (rv r v) w w' → B1 ((cnt : Int) + 1, ()) w') :
    S5_k8 true (some ⟨r, 0, none⟩) (some ⟨v, 0, none⟩) (decide (a = a)) A l c n (cnt : Int) w R B1 := by
  have hm : xs.length ≤ 1000000 ∧ i ≤ 8 * xs.length := by
    obtain ⟨o1, o2, h1, _⟩ := h
    exact ⟨h1.2.2.1, h1.2.1⟩
  refine cF (by simp) ?_
  have fd : Fr none1 w w.drew := Fr.drew w
  have h1 := h.fr0 fd
  have g1 : Fr (rv r v) w w.drew := fd.mono fun _ _ h => h.elim
  generalize w.drew = w1 at h1 g1 ⊢
  have ek : IntKind.i64.wrap (((8 * xs.length : Nat) : Int) - (i : Int)) = 8 * (xs.length : Int) - (i : Int) := by rw [IntWalk.i64_in _ (by omega)]; omega
  have fin : ∀ w2, Two B w2 r v xs i E i E → Fr (rv r v) w w2 →
      Calls Try.prog 27 ⟨[.pointer (some ⟨r, 0, none⟩)]⟩ w2 fun e w__1 => ∃ (t83 : Int), e = .returned (.int .i64 t83) ∧
        Calls Try.prog 28 ⟨[.pointer (some ⟨v, 0, none⟩)]⟩ w__1 fun e w__2 => ∃ (t85 : Int), e = .returned (.int .i64 t85) ∧
          S5_k9 true (some ⟨r, 0, none⟩) (some ⟨v, 0, none⟩) A l c n (cnt : Int) (!decide ((t83 : Int) = t85)) w__2 R B1 := by
    intro w2 h2 g2
    refine (two_end h2).use ?_
    rintro x w3 ⟨rfl, h3, f3⟩
    refine ⟨_, rfl, ?_⟩
    refine (two_fend h3).use ?_
    rintro x w4 ⟨rfl, h4, f4⟩
    refine ⟨_, rfl, cF (by simp) ?_⟩
    rw [IntWalk.i64_in ((cnt : Int) + 1) (by omega)]
    exact k w4 h4 (g2.trans' (f3.trans' f4))
  obtain ⟨⟨A1, c1, k0⟩, k1⟩ := h1.cells
  refine ⟨_, rfl, _, rfl, ?_, ⟨_, _, _, k0, ?_, _, k1, ?_⟩, ⟨_, k1, ?_, _, _, _, k0, ?_⟩⟩
  all_goals (
    refine (two_left h1).use ?_
    rintro x w2 ⟨rfl, h2, f2⟩
    obtain ⟨⟨A2, c2, j0⟩, j1⟩ := h2.cells)
  · exact ⟨_, rfl, _, _, _, j0, _, j1, by rw [ek]; exact cF (by simp) (fin w2 h2 (g1.trans' f2))⟩
  · exact ⟨_, rfl, _, j1, by rw [ek]; exact cF (by simp) (fin w2 h2 (g1.trans' f2))⟩
  · exact ⟨_, rfl, by rw [ek]; exact cF (by simp) (fin w2 h2 (g1.trans' f2))⟩
  · exact ⟨_, rfl, _, _, _, j0, by rw [ek]; exact cF (by simp) (fin w2 h2 (g1.trans' f2))⟩
  · exact ⟨_, rfl, by rw [ek]; exact cF (by simp) (fin w2 h2 (g1.trans' f2))⟩
end
/-- One byte of an own row, written. -/
theorem byte_step {w : World} {ok : Nat → Prop} {A : Option Addr} {l c : Nat} {vs : List Value} (h : Own w 5 1 ok A l c vs) (hv : ∀ v ∈ vs, ∃ n, v = .int .u8 n) {i : Nat} (hi : i < l) :
    ∃ (a : Addr) (n : Int), A = some a ∧ w.cell? (a.add (Int.toNat (i : Int) * 1)) = some (.int .u8 n) ∧ (∃ u, w.cell? (a.add (Int.toNat (i : Int) * 1)) = some u) ∧ w.frozen? (a.add (Int.toNat (i : Int) * 1)) = false ∧
      ∀ m : Int, ∃ vs', Own (w.setCell (a.add (Int.toNat (i : Int) * 1)) (.int .u8 m)) 5 1 ok A l c vs' ∧ (∀ v ∈ vs', ∃ n, v = .int .u8 n) ∧ Fr (ownAt A) w (w.setCell (a.add (Int.toNat (i : Int) * 1)) (.int .u8 m)) := by
  obtain ⟨g, rfl, _, _⟩ := h.form (by omega)
  have hlen := h.1
  have hx : vs[i]? = some vs[i] := List.getElem?_eq_getElem (by omega)
  obtain ⟨n, hn⟩ := hv _ (List.getElem_mem (l := vs) (n := i) (by omega))
  obtain ⟨a, ha, _, hc⟩ := h.rd.at hx
  cases ha
  rw [Int.toNat_natCast, Nat.mul_one]
  rw [hn] at hc
  refine ⟨_, n, rfl, hc, ⟨_, hc⟩, by rw [add_g]; exact h.free i, fun m => ?_⟩
  rw [add_g]
  refine ⟨vs.set i (.int .u8 m), h.set i _, fun v hv' => ?_, Fr.setCell w ⟨_, rfl, rfl⟩ _⟩
  rcases List.mem_or_eq_of_mem_set hv' with h' | h'
  · exact hv v h'
  · exact ⟨m, h'⟩
theorem bvs_u8 (xs : List UInt8) : ∀ v ∈ bvs xs, ∃ n, v = .int .u8 n := by
  intro v hv
  simp [bvs] at hv
  obtain ⟨b, _, rfl⟩ := hv
  exact ⟨_, rfl⟩
/-- `append([]T{}, xs...)`. -/
theorem dupl0 {P : Program} {t ty e : TypeId} {sz bytes : Nat} (T : ElT P t e sz bytes) {w : World} {ok2 : Nat → Prop} {A2 : Option Addr} {m c2 : Nat} {news : List Value}
    (hn : news.length = m * sz) (hr : Rd w ok2 A2 news) (h1 : ∀ u ∈ news, u.oneCell' = true) (hb : m * bytes ≤ 140737488355328) (hm : m ≤ maxLen) :
    ∃ A' c' w', (Builtin.append_ #[t, t] ty ⟨[.slice (some ⟨w.heap.size, 0, none⟩) 0 0, .slice A2 m c2]⟩).run P (w.alloc (.cells ⟨[]⟩ e)) = .ok (.slice A' m c') w' ∧ Own w' e sz (from1 w.heap.size) A' m c' news ∧ Fr none1 w w' := by
  have f1 : Fr none1 w (w.alloc (.cells ⟨[]⟩ e)) := Fr.alloc _ _
  have lit := Own.lit w e sz 0 [] (by simp) (by simp)
  obtain ⟨A', c', w', h2, h3, h4, _⟩ := run_append (ty := ty) (c2 := c2) T lit hn (hr.fr f1 fun _ _ _ h => h) h1 (by rw [Nat.zero_add]; exact hb) (by rw [Nat.zero_add]; exact hm)
  rw [Nat.zero_add] at h2 h3
  rw [List.nil_append] at h3
  have := f1.size
  refine ⟨A', c', w', h2, h3.mono fun k _ h => ?_, f1.trans h4 fun k hk ⟨a, ha, e⟩ => by cases ha; simp only at e; omega⟩
  rcases h with h | h
  · exact Nat.le_of_eq h.symm
  · exact Nat.le_trans this h
section
variable {W : World}
theorem bitsTakes_ok {A0 : Option Addr} {c0 : Nat} {ys : List UInt8} (hr : Rd W (fun k => k < W.heap.size) A0 (bvs ys)) (hc : ys.length ≤ c0) {A : Option Addr} {l c : Nat} {tl : List Tk} (h : RowAt W.heap.size 2 (TakeQ W) A tl) (hl : tl.length = l) (hm : l ≤ maxLen) :
    Ret Try.prog 5 [.slice A0 ys.length c0, .slice A l c] W (Done W) := by
  simp only [maxLen] at hm
  apply S5_calls
  refine (shown_ok W).use ?_
  rintro v w1 ⟨rfl, f1⟩
  refine ⟨_, rfl, ?_⟩
  obtain ⟨m, hm0, hm'⟩ := upto_n ys.length 1000
  have hm2 : (if (1000 : Int) < ((ys.length : Nat) : Int) then (1000 : Int) else ((ys.length : Nat) : Int)) = (m : Int) := hm0
  rw [hm2, Int.toNat_natCast, Nat.sub_zero, slAddr_zero]
  have htl : (ys.take m).length = m := by rw [List.length_take]; omega
  have hrd : Rd W (fun k => k < W.heap.size) A0 (bvs (ys.take m)) := by
    have := hr.take m
    unfold bvs at this ⊢
    rwa [← List.map_take] at this
  have hm1 : m ≤ 1000 := by omega
  generalize ys.take m = xs at htl hrd
  subst htl
  obtain ⟨A2, c2, w2, r2, o2, f2⟩ := dupl0 (ty := 37) (c2 := c0 - 0) Eby (m := xs.length) (by rw [bvs_length]; omega) (hrd.fr f1 fun _ _ _ h => h) (bvs_one _) (by omega) (by simp only [maxLen]; omega)
  refine ⟨by omega, by omega, _, _, _, w2, r2, ?_⟩
  refine (rnew_ok (c := c2) o2.rd (by omega)).use ?_
  rintro v w3 ⟨r, rfl, h3, f3⟩
  refine ⟨_, rfl, cF rfl ?_⟩
  refine (of_ok (c := c2) (o2.rd.fr f3 fun _ _ _ h => h) (by omega)).use ?_
  rintro v w4 ⟨v, rfl, h4, f4⟩
  refine ⟨_, rfl, ?_⟩
  have s1 := f1.size
  have s2 := f2.size
  have s3 := f3.size
  have two4 : Two w2.heap.size w4 r v xs 0 0 0 0 := ⟨bw w2.heap.size w3, bw w3.heap.size w4, h3.fr f4 fun _ _ _ h => h, h4, fun k a b => by have := a.2; have := b.1; omega, fun k a => a.1, fun k a => Nat.le_trans s3 a.1⟩
  have o4 := ((o2.fr f3 fun _ _ _ h => h).fr f4 fun _ _ _ h => h)
  have own4 : ∀ a, A2 = some a → W.heap.size ≤ a.block ∧ a.block < w2.heap.size := fun a ha => ⟨Nat.le_trans s1 (o2.has a ha).1, (o2.has a ha).2⟩
  have g4 : Bel W.heap.size W w4 := (f1.trans' (f2.trans' (f3.trans' f4))).bel0
  refine ⟨fun s w' => ∃ (n : Nat) (vs : List Value), s.1 = (n : Int) ∧ n ≤ xs.length ∧ Own w' 5 1 (from1 w1.heap.size) A2 xs.length c2 vs ∧ (∀ v ∈ vs, ∃ n, v = .int .u8 n) ∧ Two w2.heap.size w' r v xs 0 0 0 0 ∧ Bel W.heap.size W w', fun s _ => xs.length - s.1.toNat, ⟨0, _, rfl, Nat.zero_le _, o4, bvs_u8 _, two4, g4⟩, ?_⟩
  rintro J ⟨i, ⟨⟩⟩ w5 ⟨n, vs, hi, hn, o5, v5, two5, g5⟩
  dsimp only at hi ⊢
  subst hi
  refine cD (fun hlt => ?_) (fun hlt => ?_)
  · obtain ⟨a, x, e1, e2, e3, e4, e5⟩ := byte_step o5 v5 (i := n) (by omega)
    obtain ⟨vs', o6, v6, f6⟩ := e5 (bitsI .xor .u8 x 85)
    refine ⟨a, e1, by omega, by omega, x, e2, a, e1, by omega, by omega, e3, e4, ?_⟩
    rw [IntWalk.i64_in ((n : Int) + 1) (by omega)]
    exact ⟨⟨n + 1, vs', rfl, by omega, o6, v6, two5.fr f6 fun k _ hk ⟨a, ha, e⟩ => by have := (own4 a ha).2; omega, g5.trans' (f6.bel fun k ⟨a, ha, e⟩ => by have := (own4 a ha).1; omega)⟩, by dsimp only; omega⟩
  · clear o5 v5
    refine ⟨fun s w' => ∃ (n i : Nat) (E : Int), s.1 = (n : Int) ∧ n ≤ l ∧ n ≤ 300 ∧ Two w2.heap.size w' r v xs i E i E ∧ Bel W.heap.size W w', fun s _ => l - s.1.toNat, ⟨0, 0, 0, rfl, Nat.zero_le _, by decide, two5, g5⟩, ?_⟩
    rintro J ⟨i, ⟨⟩⟩ w4 ⟨n, p, E, hi, hn, hn3, h4, g4⟩
    dsimp only at hi ⊢
    subst hi
    have rvB : ∀ {a b : World}, Fr (rv r v) a b → Bel W.heap.size a b := fun f => f.bel fun k hk => by
      have := two5.lt
      rcases hk with hk | hk <;> omega
    have endk : ∀ w5, Two w2.heap.size w5 r v xs p E p E → Bel W.heap.size W w5 → S5_k6 true (some ⟨r, 0, none⟩) (some ⟨v, 0, none⟩) w5 (Done W) := by
      intro w5 h5 g5
      refine cT rfl ?_
      refine (two_end h5).use ?_
      rintro x w6 ⟨rfl, h6, f6⟩
      refine ⟨_, rfl, ?_⟩
      refine (two_fend h6).use ?_
      rintro x w7 ⟨rfl, h7, f7⟩
      exact ⟨_, rfl, by simp, (g5.trans' ((rvB f6).trans' (rvB f7))).top⟩
    refine cD (fun hlt => ?_) (fun hlt => endk w4 h4 g4)
    have hx : tl[n]? = some tl[n] := List.getElem?_eq_getElem (by omega)
    obtain ⟨a, rfl, hab, hq⟩ := h n _ hx
    generalize tl[n] = x at hx hq
    obtain ⟨q1, q2, q3⟩ := hq.fr (Nat.le_refl _) (by rw [add_block]; exact hab) g4
    refine ⟨a, rfl, by omega, by omega, _, by rw [Int.toNat_natCast]; exact q1, _, by rw [Int.toNat_natCast]; exact q2, ?_⟩
    obtain ⟨p1, p2, p3, p4, b5, f5⟩ := cp2 w4 48 (.bool false) (.int .i64 0) (.bool x.1) (.int .i64 x.2)
    refine ⟨p1, p2, p3, p4, ?_⟩
    generalize World.setCell _ _ _ = w5 at b5 f5 ⊢
    have h5 := h4.fr0 f5
    have g5' := g4.trans' f5.bel0
    refine cD (fun h3 => endk w5 h5 g5') (fun h3 => ?_)
    have hlt4 := h4.lt
    have nrv : ¬ rv r v w4.heap.size := fun h => by rcases h with h | h <;> omega
    generalize w4.heap.size = t at b5 nrv ⊢
    have nx : ∀ (i' : Nat) (E' : Int) w6, Two w2.heap.size w6 r v xs i' E' i' E' → Bel W.heap.size W w6 → ∀ w', Two w2.heap.size w' r v xs i' E' i' E' → Fr (rv r v) w6 w' →
        (∃ (n_1 i : Nat) (E : Int), (n : Int) + 1 = (n_1 : Int) ∧ n_1 ≤ l ∧ n_1 ≤ 300 ∧ Two w2.heap.size w' r v xs i E i E ∧ Bel W.heap.size W w') ∧ l - ((n : Int) + 1).toNat < l - (n : Int).toNat :=
      fun i' E' w6 h6 g6 w' hl fl => ⟨⟨n + 1, i', E', by omega, by omega, by omega, hl, g6.trans' (rvB fl)⟩, by omega⟩
    refine ⟨_, (b5.cell 0).trans rfl, cB (fun hx1 => ?_) (fun hx1 => ?_)⟩
    · refine (two_count h5).use ?_
      rintro y w6 ⟨rfl, h6, f6⟩
      refine ⟨_, rfl, ?_⟩
      refine (two_fcount h6).use ?_
      rintro y w7 ⟨rfl, h7, f7⟩
      exact ⟨_, rfl, takes_k8 (W := W) h7 (by omega) (nx _ _ w7 h7 (g5'.trans' ((rvB f6).trans' (rvB f7))))⟩
    · have fd : Fr none1 w5 w5.drew := Fr.drew w5
      have h6 := h5.fr0 fd
      have b6 := b5.fr fd (fun h => h)
      have g6 := g5'.trans' fd.bel0
      generalize w5.drew = w6 at h6 b6 g6 ⊢
      have cc : ∀ {w'}, Blk w' t 48 [.bool x.1, .int .i64 x.2] → w'.cell? ((⟨t, 0, none⟩ : Addr).add 1) = some (.int .i64 x.2) := fun b => by rw [add_g]; exact (b.cell 1).trans rfl
      refine ⟨_, cc b6, ?_, _, cc b6, ?_⟩
      · refine (two_get h6 x.2).use ?_
        rintro y w7 ⟨rfl, h7, f7⟩
        refine ⟨_, rfl, _, cc (b6.fr f7 nrv), ?_⟩
        refine (two_fget h7 x.2).use ?_
        rintro y w8 ⟨rfl, h8, f8⟩
        exact ⟨_, rfl, takes_k8 (W := W) h8 (by omega) (nx _ _ w8 h8 (g6.trans' ((rvB f7).trans' (rvB f8))))⟩
      · refine (two_get h6 x.2).use ?_
        rintro y w7 ⟨rfl, h7, f7⟩
        refine ⟨_, rfl, ?_⟩
        refine (two_fget h7 x.2).use ?_
        rintro y w8 ⟨rfl, h8, f8⟩
        exact ⟨_, rfl, takes_k8 (W := W) h8 (by omega) (nx _ _ w8 h8 (g6.trans' ((rvB f7).trans' (rvB f8))))⟩
end
end Go.Proofs
