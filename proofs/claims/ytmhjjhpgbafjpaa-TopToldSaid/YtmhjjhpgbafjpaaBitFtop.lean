/- The readers of bits, of the program and of the reference: what is pure, and contracts. -/
import Derived.Test.YtmhjjhpgbafjpaaBitEtop
set_option linter.unusedVariables false
namespace Go.Proofs
open Go Go.Eng
/-! ### Without the program -/
structure Rs where
  L : List Bool
  i : Nat
  E : Int
def Rs.left (s : Rs) : Int := (s.L.length : Int) - (s.i : Int)
def getE (s : Rs) (many : Int) : Int := if s.E ≠ 0 then s.E else if many < 0 ∨ 64 < many then 1 else if s.left < many then 10 else 0
def getV (s : Rs) (many : Int) : Nat := if getE s many = 0 then vl ((s.L.drop s.i).take many.toNat) else 0
def getS (s : Rs) (many : Int) : Rs := if getE s many = 0 then ⟨s.L, s.i + many.toNat, s.E⟩ else ⟨s.L, s.i, getE s many⟩
/-- How many bits 0 there are ahead. -/
def zs (l : List Bool) : Nat := (l.takeWhile (! ·)).length
def rcE (s : Rs) : Int := if s.E ≠ 0 then s.E else if 63 < zs (s.L.drop s.i) then 4 else if s.left < 2 * (zs (s.L.drop s.i) : Int) + 1 then 10 else 0
def rcV (s : Rs) : Nat := if rcE s = 0 then vl ((s.L.drop (s.i + zs (s.L.drop s.i))).take (zs (s.L.drop s.i) + 1)) - 1 else 0
def rcS (s : Rs) : Rs := if rcE s = 0 then ⟨s.L, s.i + (2 * zs (s.L.drop s.i) + 1), s.E⟩ else ⟨s.L, s.i, rcE s⟩
def endV (s : Rs) : Int := if s.E ≠ 0 then s.E else if 7 < s.left then 11 else if (s.L.drop s.i).any id then 11 else 0
theorem zs_le (l : List Bool) : zs l ≤ l.length := (List.takeWhile_sublist _).length_le
theorem zs_false : ∀ (l : List Bool) (k : Nat), k < zs l → l[k]? = some false
  | [], k, h => by simp [zs] at h
  | b :: l, k, h => by
    unfold zs at h
    rw [List.takeWhile_cons] at h
    cases b with
    | true => simp at h
    | false =>
      simp at h
      cases k with
      | zero => rfl
      | succ k => rw [List.getElem?_cons_succ]; exact zs_false l k (by unfold zs; omega)
theorem zs_true : ∀ (l : List Bool), zs l < l.length → l[zs l]? = some true
  | [], h => by simp at h
  | b :: l, h => by
    unfold zs at h ⊢
    rw [List.takeWhile_cons] at h ⊢
    cases b with
    | true => rfl
    | false =>
      simp at h
      simp only [Bool.not_false, ↓reduceIte, List.length_cons, List.getElem?_cons_succ]
      exact zs_true l (by unfold zs; omega)
theorem zs_eq {l : List Bool} {k : Nat} (h : ∀ j, j < k → l[j]? = some false) (he : k = l.length ∨ l[k]? = some true) : zs l = k := by
  have h1 := zs_le l
  rcases Nat.lt_trichotomy (zs l) k with hlt | rfl | hgt
  · have h2 := h _ hlt
    have h3 := (List.getElem?_eq_some_iff.1 h2).1
    rw [zs_true l h3] at h2; cases h2
  · rfl
  · rcases he with he | he
    · omega
    · rw [zs_false l k hgt] at he; cases he
theorem take_next {l : List Bool} {i j : Nat} {x : Bool} (h : l[i + j]? = some x) : (l.drop i).take (j + 1) = (l.drop i).take j ++ [x] := by
  rw [List.take_add_one, List.getElem?_drop, h]; rfl
/-! ### The program's reader -/
def RdrAt (w : World) (ok : Nat → Prop) (b : Nat) (xs : List UInt8) (i : Nat) (E : Int) : Prop :=
  ok b ∧ i ≤ 8 * xs.length ∧ xs.length ≤ 1000000 ∧ ∃ A c, Blk w b 127 [.slice A xs.length c, .int .i64 (i : Int), .int .i64 E] ∧ Own w 5 1 ok A xs.length c (bvs xs)
section
variable {w : World} {ok : Nat → Prop} {b : Nat} {xs : List UInt8} {i : Nat} {E : Int}
theorem RdrAt.fr {F : Nat → Prop} {w' : World} (h : RdrAt w ok b xs i E) (hf : Fr F w w') (hd : ∀ k, k < w.heap.size → ok k → ¬ F k) : RdrAt w' ok b xs i E := by
  obtain ⟨h0, h1, hm, A, c, h2, h3⟩ := h
  exact ⟨h0, h1, hm, A, c, h2.fr hf (hd b h2.lt h0), h3.fr hf hd⟩
theorem RdrAt.mono {ok' : Nat → Prop} (h : RdrAt w ok b xs i E) (hk : ∀ k, k < w.heap.size → ok k → ok' k) : RdrAt w ok' b xs i E := by
  obtain ⟨h0, h1, hm, A, c, h2, h3⟩ := h
  exact ⟨hk b h2.lt h0, h1, hm, A, c, h2, h3.mono hk⟩
theorem RdrAt.lt (h : RdrAt w ok b xs i E) : b < w.heap.size := by
  obtain ⟨_, _, _, A, c, h2, _⟩ := h
  exact h2.lt
theorem RdrAt.cells (h : RdrAt w ok b xs i E) : (∃ A c, w.cell? ⟨b, 0, none⟩ = some (.slice A xs.length c)) ∧ w.cell? ((⟨b, 0, none⟩ : Addr).add 1) = some (.int .i64 (i : Int)) ∧ w.cell? ((⟨b, 0, none⟩ : Addr).add 2) = some (.int .i64 E) := by
  obtain ⟨_, _, _, A, c, h2, _⟩ := h
  exact ⟨⟨A, c, (h2.cell 0).trans rfl⟩, by rw [add_g]; exact (h2.cell 1).trans rfl, by rw [add_g]; exact (h2.cell 2).trans rfl⟩
theorem RdrAt.setI (h : RdrAt w ok b xs i E) {i' : Nat} (hi : i' ≤ 8 * xs.length) : (∃ u, w.cell? ((⟨b, 0, none⟩ : Addr).add 1) = some u) ∧ w.frozen? ((⟨b, 0, none⟩ : Addr).add 1) = false ∧
    RdrAt (w.setCell ((⟨b, 0, none⟩ : Addr).add 1) (.int .i64 (i' : Int))) ok b xs i' E ∧ Fr (fun k => k = b) w (w.setCell ((⟨b, 0, none⟩ : Addr).add 1) (.int .i64 (i' : Int))) := by
  obtain ⟨h0, h1, hm, A, c, h2, h3⟩ := h
  rw [add_g]
  have f2 := Fr.setCell (F := fun k => k = b) w (p := ⟨b, 1, none⟩) rfl (.int .i64 (i' : Int))
  exact ⟨h2.has 1 (by simp), h2.free 1, ⟨h0, hi, hm, A, c, h2.set 1 _, h3.fr1 f2 fun a ha => h3.ne_blk h2 (by decide) a ha⟩, f2⟩
theorem RdrAt.setE (h : RdrAt w ok b xs i E) (E' : Int) : (∃ u, w.cell? ((⟨b, 0, none⟩ : Addr).add 2) = some u) ∧ w.frozen? ((⟨b, 0, none⟩ : Addr).add 2) = false ∧
    RdrAt (w.setCell ((⟨b, 0, none⟩ : Addr).add 2) (.int .i64 E')) ok b xs i E' ∧ Fr (fun k => k = b) w (w.setCell ((⟨b, 0, none⟩ : Addr).add 2) (.int .i64 E')) := by
  obtain ⟨h0, h1, hm, A, c, h2, h3⟩ := h
  rw [add_g]
  have f2 := Fr.setCell (F := fun k => k = b) w (p := ⟨b, 2, none⟩) rfl (.int .i64 E')
  exact ⟨h2.has 2 (by simp), h2.free 2, ⟨h0, h1, hm, A, c, h2.set 2 _, h3.fr1 f2 fun a ha => h3.ne_blk h2 (by decide) a ha⟩, f2⟩
end
theorem rnew_ok {w : World} {xs : List UInt8} {A : Option Addr} {c : Nat} {ok : Nat → Prop} (h : Rd w ok A (bvs xs)) (hm : xs.length ≤ 1000000) :
    Ret Try.prog 50 [.slice A xs.length c] w fun v w' => ∃ b, v = .pointer (some ⟨b, 0, none⟩) ∧ RdrAt w' (bw w.heap.size w') b xs 0 0 ∧ Fr none1 w w' := by
  apply S50_calls
  obtain ⟨A', c', w', r1, o1, f1⟩ := dupl (ty := 36) (c2 := c) Eby (m := xs.length) (by rw [bvs_length]; omega) h (bvs_one _) (by omega) (by simp only [maxLen]; omega)
  have f2 : Fr none1 w' (w'.alloc (.cells ⟨[.slice A' xs.length c', .int .i64 0, .int .i64 0]⟩ 127)) := Fr.alloc _ _
  have b2 := Blk.new w' 127 [.slice A' xs.length c', .int .i64 0, .int .i64 0]
  refine ⟨_, _, _, w', r1, _, rfl, ⟨⟨f1.size, b2.lt⟩, by omega, hm, A', c', b2, ?_⟩, f1.trans' f2⟩
  exact (o1.fr f2 fun _ _ _ h => h).mono fun k hk h => ⟨h, hk⟩
section
variable {w : World} {ok : Nat → Prop} {b : Nat} {xs : List UInt8} {i : Nat} {E : Int}
theorem left_ok (h : RdrAt w ok b xs i E) : Ret Try.prog 56 [.pointer (some ⟨b, 0, none⟩)] w fun v w' => v = .int .i64 (8 * (xs.length : Int) - (i : Int)) ∧ RdrAt w' ok b xs i E ∧ Fr none1 w w' := by
  apply S56_calls
  have fd : Fr none1 w w.drew := Fr.drew w
  have h1 := h.fr fd fun _ _ _ h => h
  obtain ⟨⟨A, c, c0⟩, c1, _⟩ := h1.cells
  obtain ⟨_, hi, hm, _⟩ := h
  refine cF rfl ⟨_, rfl, _, rfl, _, _, _, c0, _, c1, ?_, h1, fd⟩
  rw [IntWalk.i64_in (8 * (xs.length : Int)) (by omega), IntWalk.i64_in _ (by omega)]
theorem one_ok (h : RdrAt w ok b xs i E) {j : Nat} {x : Bool} (hx : (up8 xs)[i + j]? = some x) : Ret Try.prog 68 [.pointer (some ⟨b, 0, none⟩), .int .i64 (j : Int)] w fun v w' => v = .bool x ∧ w' = w := by
  have hlt := (List.getElem?_eq_some_iff.1 hx).1
  rw [up8_length] at hlt
  apply S68_calls
  obtain ⟨_, c1, _⟩ := h.cells
  obtain ⟨_, hi, hm, A, c, hb, ho⟩ := h
  have c0 : w.cell? ⟨b, 0, none⟩ = some (.slice A xs.length c) := (hb.cell 0).trans rfl
  have e0 : IntKind.i64.wrap ((i : Int) + (j : Int)) = ((i + j : Nat) : Int) := by rw [IntWalk.i64_in _ (by omega)]; omega
  have e8 : IntKind.i64.wrap (Int.tdiv ((i + j : Nat) : Int) 8) = (((i + j) / 8 : Nat) : Int) := by
    rw [Int.tdiv_eq_ediv_of_nonneg (by omega), IntWalk.i64_in _ (by omega)]; omega
  have e9 : Int.tmod ((i + j : Nat) : Int) 8 = (((i + j) % 8 : Nat) : Int) := by rw [Int.tmod_eq_emod_of_nonneg (by omega)]; omega
  have e10 : IntKind.i64.wrap (7 - (((i + j) % 8 : Nat) : Int)) = 7 - (((i + j) % 8 : Nat) : Int) := IntWalk.i64_in _ (by omega)
  have hy : xs[(i + j) / 8]? = some xs[(i + j) / 8] := List.getElem?_eq_getElem (by omega)
  have hz := up8_get hy (j := (i + j) % 8) (by omega)
  rw [Nat.div_add_mod, hx, bit8 _ (by omega)] at hz
  obtain ⟨a, rfl, _, cx⟩ := ho.rd.at (bvs_get hy)
  refine ⟨_, rfl, _, c1, ?_⟩
  rw [e0, e8, e9, e10]
  refine ⟨_, rfl, _, _, _, c0, by decide, _, rfl, by omega, by omega, _, by rw [Int.toNat_natCast, Nat.mul_one]; exact cx, by decide, by omega, ?_, rfl⟩
  rw [Option.some.inj hz]
theorem get_ok (h : RdrAt w ok b xs i E) (many : Int) : Ret Try.prog 52 [.pointer (some ⟨b, 0, none⟩), .int .i64 many] w fun v w' => v = .int .u64 (getV ⟨up8 xs, i, E⟩ many : Int) ∧ RdrAt w' ok b xs (getS ⟨up8 xs, i, E⟩ many).i (getS ⟨up8 xs, i, E⟩ many).E ∧ Fr (fun k => k = b) w w' := by
  apply S52_calls
  have hU := up8_length xs
  obtain ⟨_, _, c2⟩ := h.cells
  have hh := h
  obtain ⟨_, hi, hm, _⟩ := hh
  refine cF rfl ⟨_, rfl, _, c2, ?_⟩
  refine cN (fun hE => ?_) (fun hE => ?_)
  · have e : getE ⟨up8 xs, i, E⟩ many = E := by unfold getE; rw [if_pos hE]
    unfold getV getS
    rw [e, if_neg hE, if_neg hE]
    exact ⟨rfl, h, Fr.refl _ _⟩
  · subst hE
    have bad : (many < 0 ∨ 64 < many) → S52_k1 (some ⟨b, 0, none⟩) many true w fun v w' => v = .int .u64 (getV ⟨up8 xs, i, 0⟩ many : Int) ∧ RdrAt w' ok b xs (getS ⟨up8 xs, i, 0⟩ many).i (getS ⟨up8 xs, i, 0⟩ many).E ∧ Fr (fun k => k = b) w w' := fun hb => by
      have e : getE ⟨up8 xs, i, 0⟩ many = 1 := by unfold getE; rw [if_neg (by simp), if_pos hb]
      unfold getV getS
      rw [e]
      obtain ⟨s1, s2, s3, s4⟩ := h.setE 1
      exact cT rfl ⟨_, rfl, s1, s2, rfl, s3, s4⟩
    refine cD (fun h0 => bad (.inl h0)) (fun h0 => ?_)
    by_cases h1 : 64 < many
    · have := bad (.inr h1)
      rw [decide_eq_true h1]; exact this
    · rw [decide_eq_false h1]
      refine cF rfl ?_
      refine (left_ok h).use ?_
      rintro v w1 ⟨rfl, h1', f1⟩
      have f1' : Fr (fun k => k = b) w w1 := f1.mono fun _ _ h => h.elim
      refine ⟨_, rfl, ?_⟩
      have hleft : Rs.left ⟨up8 xs, i, 0⟩ = 8 * (xs.length : Int) - (i : Int) := by show ((up8 xs).length : Int) - (i : Int) = _; rw [hU]; omega
      refine cD (fun h2 => ?_) (fun h2 => ?_)
      · have e : getE ⟨up8 xs, i, 0⟩ many = 10 := by unfold getE; rw [if_neg (by simp), if_neg (by omega), if_pos (by omega)]
        unfold getV getS
        rw [e]
        obtain ⟨s1, s2, s3, s4⟩ := h1'.setE 10
        exact ⟨_, rfl, s1, s2, rfl, s3, f1'.trans' s4⟩
      · have e : getE ⟨up8 xs, i, 0⟩ many = 0 := by unfold getE; rw [if_neg (by simp), if_neg (by omega), if_neg (by omega)]
        unfold getV getS
        rw [e, if_pos rfl, if_pos rfl]
        refine ⟨fun s w' => ∃ j : Nat, s.2.1 = (j : Int) ∧ j ≤ many.toNat ∧ s.1 = ((vl (((up8 xs).drop i).take j) : Nat) : Int) ∧ RdrAt w' ok b xs (i + j) 0 ∧ Fr (fun k => k = b) w w', fun s _ => many.toNat - s.2.1.toNat, ⟨0, rfl, Nat.zero_le _, by simp [vl], h1', f1'⟩, ?_⟩
        rintro J ⟨n, k, ⟨⟩⟩ w2 ⟨j, hk, hj, hn, h2', f2⟩
        dsimp only at hk hn ⊢
        subst hk hn
        refine cD (fun hlt => ?_) (fun hlt => ?_)
        · have hx : (up8 xs)[(i + j) + 0]? = some (up8 xs)[i + j] := by rw [Nat.add_zero]; exact List.getElem?_eq_getElem (by omega)
          have hlen : (((up8 xs).drop i).take j).length = j := by rw [List.length_take, List.length_drop]; omega
          have hvl := vl_lt (((up8 xs).drop i).take j)
          rw [hlen] at hvl
          have hp : 2 ^ j ≤ 2 ^ 63 := Nat.pow_le_pow_right (by decide) (by omega)
          have e2 : IntKind.u64.wrap (((vl (((up8 xs).drop i).take j) : Nat) : Int) * 2 ^ (min (Int.toNat 1) (IntKind.u64.bits))) = ((2 * vl (((up8 xs).drop i).take j) : Nat) : Int) := by
            have : (2 : Int) ^ (min (Int.toNat 1) (IntKind.u64.bits)) = 2 := by decide
            rw [this, IntWalk.u64_in _ (by omega)]; omega
          refine ⟨by decide, ?_⟩
          refine (one_ok h2' (j := 0) hx).use ?_
          rintro v w2 ⟨rfl, rfl⟩
          refine ⟨_, rfl, ?_⟩
          rw [e2]
          have nx := take_next (l := up8 xs) (i := i) (j := j) (by rw [Nat.add_zero] at hx; exact hx)
          obtain ⟨_, cc1, _⟩ := h2'.cells
          obtain ⟨s1, s2, s3, s4⟩ := h2'.setI (i' := i + j + 1) (by omega)
          have hk5 : ∀ v : Nat, v = vl (((up8 xs).drop i).take (j + 1)) → S52_k5 (some ⟨b, 0, none⟩) (v : Int) many (j : Int) w2 (fun v w' => v = .int .u64 ((vl (((up8 xs).drop i).take many.toNat) : Nat) : Int) ∧ RdrAt w' ok b xs (i + many.toNat) 0 ∧ Fr (fun k => k = b) w w')
              (fun s' w'' => (∃ j : Nat, s'.2.1 = (j : Int) ∧ j ≤ many.toNat ∧ s'.1 = ((vl (((up8 xs).drop i).take j) : Nat) : Int) ∧ RdrAt w'' ok b xs (i + j) 0 ∧ Fr (fun k => k = b) w w'') ∧ many.toNat - s'.2.1.toNat < many.toNat - (j : Int).toNat) := by
            intro v hv
            refine ⟨_, rfl, _, cc1, _, rfl, s1, s2, ?_⟩
            rw [IntWalk.i64_in ((j : Int) + 1) (by omega), IntWalk.i64_in (((i + j : Nat) : Int) + 1) (by omega), show ((i + j : Nat) : Int) + 1 = ((i + j + 1 : Nat) : Int) by omega]
            exact ⟨⟨j + 1, rfl, by omega, by rw [hv], s3, f2.trans' s4⟩, by dsimp only; omega⟩
          refine cB (fun hb => ?_) (fun hb => ?_)
          · rw [or1_64 _ (by omega)]
            refine hk5 _ ?_
            rw [nx, vl_snoc, hb]; rfl
          · refine hk5 _ ?_
            rw [nx, vl_snoc, hb]; rfl
        · have : j = many.toNat := by omega
          subst this
          exact ⟨rfl, h2', f2⟩
end
end Go.Proofs
