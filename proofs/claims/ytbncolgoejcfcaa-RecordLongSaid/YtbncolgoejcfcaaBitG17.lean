/- Counts and the end, of the program's reader; the reference's reader. -/
import Derived.Test.YtbncolgoejcfcaaBitF17
set_option linter.unusedVariables false
namespace Go.Proofs
open Go Go.Eng
theorem vl_pos {l : List Bool} {i : Nat} (h : l[i]? = some true) (k : Nat) : 1 ≤ vl ((l.drop i).take (k + 1)) := by
  have hi := (List.getElem?_eq_some_iff.1 h).1
  rw [List.drop_eq_getElem_cons hi, (List.getElem?_eq_some_iff.1 h).2, List.take_succ_cons, vl_cons]
  have := Nat.two_pow_pos ((l.drop (i + 1)).take k).length
  simp only [Bool.toNat_true]; omega
section
variable {w : World} {ok : Nat → Prop} {b : Nat} {xs : List UInt8} {i : Nat} {E : Int}
theorem rcount_ok (h : RdrAt w ok b xs i E) : Ret Try.prog 36 [.pointer (some ⟨b, 0, none⟩)] w fun v w' => v = .int .u64 (rcV ⟨up8 xs, i, E⟩ : Int) ∧ RdrAt w' ok b xs (rcS ⟨up8 xs, i, E⟩).i (rcS ⟨up8 xs, i, E⟩).E ∧ Fr (fun k => k = b) w w' := by
  apply S36_calls
  have hU := up8_length xs
  obtain ⟨_, _, c2⟩ := h.cells
  have hh := h
  obtain ⟨_, hi, hm, _⟩ := hh
  refine cF rfl ⟨_, rfl, _, c2, ?_⟩
  refine cN (fun hE => ?_) (fun hE => ?_)
  · have e : rcE ⟨up8 xs, i, E⟩ = E := by unfold rcE; rw [if_pos hE]
    unfold rcV rcS
    rw [e, if_neg hE, if_neg hE]
    exact ⟨rfl, h, Fr.refl _ _⟩
  · subst hE
    refine (left_ok h).use ?_
    rintro v w1 ⟨rfl, h1, f1⟩
    have f1' : Fr (fun k => k = b) w w1 := f1.mono fun _ _ h => h.elim
    refine ⟨_, rfl, ?_⟩
    have hleft : Rs.left ⟨up8 xs, i, 0⟩ = 8 * (xs.length : Int) - (i : Int) := by show ((up8 xs).length : Int) - (i : Int) = _; rw [hU]; omega
    have hdl : ((up8 xs).drop i).length = 8 * xs.length - i := by rw [List.length_drop, hU]
    refine ⟨fun s w' => ∃ k : Nat, s.1 = (k : Int) ∧ k ≤ 8 * xs.length - i ∧ (∀ j, j < k → ((up8 xs).drop i)[j]? = some false) ∧ RdrAt w' ok b xs i 0 ∧ Fr (fun k => k = b) w w', fun s _ => 8 * xs.length - i - s.1.toNat, ⟨0, rfl, Nat.zero_le _, fun j hj => by omega, h1, f1'⟩, ?_⟩
    rintro J ⟨k', ⟨⟩⟩ w2 ⟨k, hk, hle, hz, h2, f2⟩
    dsimp only at hk ⊢
    subst hk
    have out : (k = ((up8 xs).drop i).length ∨ ((up8 xs).drop i)[k]? = some true) → S36_k5 (some ⟨b, 0, none⟩) (8 * (xs.length : Int) - (i : Int)) (k : Int) w2 (fun v w' => v = .int .u64 (rcV ⟨up8 xs, i, 0⟩ : Int) ∧ RdrAt w' ok b xs (rcS ⟨up8 xs, i, 0⟩).i (rcS ⟨up8 xs, i, 0⟩).E ∧ Fr (fun k => k = b) w w') := by
      intro he
      have hzs : zs ((up8 xs).drop i) = k := zs_eq hz he
      refine cD (fun h63 => ?_) (fun h63 => ?_)
      · have e : rcE ⟨up8 xs, i, 0⟩ = 4 := by unfold rcE; rw [if_neg (by simp), if_pos (by simp only [hzs]; omega)]
        unfold rcV rcS
        rw [e]
        obtain ⟨s1, s2, s3, s4⟩ := h2.setE 4
        exact ⟨_, rfl, s1, s2, rfl, s3, f2.trans' s4⟩
      · rw [IntWalk.i64_in (2 * (k : Int)) (by omega), IntWalk.i64_in (2 * (k : Int) + 1) (by omega)]
        refine cD (fun hs => ?_) (fun hs => ?_)
        · have e : rcE ⟨up8 xs, i, 0⟩ = 10 := by unfold rcE; rw [if_neg (by simp), if_neg (by simp only [hzs]; omega), if_pos (by simp only [hzs]; omega)]
          unfold rcV rcS
          rw [e]
          obtain ⟨s1, s2, s3, s4⟩ := h2.setE 10
          exact ⟨_, rfl, s1, s2, rfl, s3, f2.trans' s4⟩
        · have e : rcE ⟨up8 xs, i, 0⟩ = 0 := by unfold rcE; rw [if_neg (by simp), if_neg (by simp only [hzs]; omega), if_neg (by simp only [hzs]; omega)]
          unfold rcV rcS
          rw [e, if_pos rfl, if_pos rfl]
          simp only [hzs]
          obtain ⟨_, c1, _⟩ := h2.cells
          obtain ⟨s1, s2, s3, s4⟩ := h2.setI (i' := i + k) (by omega)
          refine ⟨_, rfl, _, c1, _, rfl, s1, s2, ?_⟩
          rw [IntWalk.i64_in ((i : Int) + (k : Int)) (by omega), IntWalk.i64_in ((k : Int) + 1) (by omega), show (i : Int) + (k : Int) = ((i + k : Nat) : Int) by omega]
          refine (get_ok s3 ((k : Int) + 1)).use ?_
          have eg : getE ⟨up8 xs, i + k, 0⟩ ((k : Int) + 1) = 0 := by
            unfold getE Rs.left
            simp only [hU]
            rw [if_neg (by simp), if_neg (by omega), if_neg (by omega)]
          unfold getV getS
          rw [eg, if_pos rfl, if_pos rfl, show ((k : Int) + 1).toNat = k + 1 by omega]
          dsimp only
          rintro v w3 ⟨rfl, h3, f3⟩
          have ht : (up8 xs)[i + k]? = some true := by
            rcases he with he | he
            · omega
            · rw [List.getElem?_drop] at he; exact he
          have hp := vl_pos ht k
          have hv := vl_lt (((up8 xs).drop (i + k)).take (k + 1))
          have hl2 : (((up8 xs).drop (i + k)).take (k + 1)).length = k + 1 := by rw [List.length_take, List.length_drop]; omega
          rw [hl2] at hv
          have hpow : 2 ^ (k + 1) ≤ 2 ^ 64 := Nat.pow_le_pow_right (by decide) (by omega)
          refine ⟨_, rfl, ?_, ?_, (f2.trans' s4).trans' f3⟩
          · rw [IntWalk.u64_in _ (by omega)]
            congr 1; omega
          · rw [show i + (2 * k + 1) = i + k + (k + 1) by omega]; exact h3
    refine cD (fun hlt => ?_) (fun hlt => ?_)
    · have hx : (up8 xs)[i + k]? = some (up8 xs)[i + k] := List.getElem?_eq_getElem (by omega)
      refine (one_ok h2 hx).use ?_
      rintro v w2 ⟨rfl, rfl⟩
      refine ⟨_, rfl, ?_⟩
      cases hb : (up8 xs)[i + k] with
      | true =>
        refine cF rfl (out (.inr ?_))
        rw [List.getElem?_drop, hx, hb]
      | false =>
        refine cT rfl ?_
        unfold S36_k4
        rw [IntWalk.i64_in ((k : Int) + 1) (by omega)]
        refine ⟨⟨k + 1, rfl, by omega, fun j hj => ?_, h2, f2⟩, by dsimp only; omega⟩
        by_cases e : j = k
        · subst e; rw [List.getElem?_drop, hx, hb]
        · exact hz j (by omega)
    · exact cF rfl (out (.inl (by omega)))
theorem end_ok (h : RdrAt w ok b xs i E) : Ret Try.prog 33 [.pointer (some ⟨b, 0, none⟩)] w fun v w' => v = .int .i64 (endV ⟨up8 xs, i, E⟩) ∧ RdrAt w' ok b xs i E ∧ Fr none1 w w' := by
  apply S33_calls
  have hU := up8_length xs
  obtain ⟨_, _, c2⟩ := h.cells
  have hh := h
  obtain ⟨_, hi, hm, _⟩ := hh
  refine cF rfl ⟨_, rfl, _, c2, ?_⟩
  refine cN (fun hE => ?_) (fun hE => ?_)
  · have e : endV ⟨up8 xs, i, E⟩ = E := by unfold endV; rw [if_pos hE]
    rw [e]
    exact ⟨_, rfl, _, c2, rfl, h, Fr.refl _ _⟩
  · subst hE
    refine (left_ok h).use ?_
    rintro v w1 ⟨rfl, h1, f1⟩
    refine ⟨_, rfl, ?_⟩
    have hleft : Rs.left ⟨up8 xs, i, 0⟩ = 8 * (xs.length : Int) - (i : Int) := by show ((up8 xs).length : Int) - (i : Int) = _; rw [hU]; omega
    refine cD (fun h7 => ?_) (fun h7 => ?_)
    · have e : endV ⟨up8 xs, i, 0⟩ = 11 := by unfold endV; rw [if_neg (by simp), if_pos (by omega)]
      rw [e]; exact ⟨rfl, h1, f1⟩
    · have e : endV ⟨up8 xs, i, 0⟩ = if ((up8 xs).drop i).any id then 11 else 0 := by unfold endV; rw [if_neg (by simp), if_neg (by omega)]
      rw [e]
      refine ⟨fun s w' => w' = w1 ∧ ∃ k : Nat, s.1 = (k : Int) ∧ k ≤ 8 * xs.length - i ∧ (((up8 xs).drop i).take k).any id = false, fun s _ => 8 * xs.length - i - s.1.toNat, ⟨rfl, 0, rfl, Nat.zero_le _, by simp⟩, ?_⟩
      rintro J ⟨k', ⟨⟩⟩ w2 ⟨rfl, k, hk, hle, hz⟩
      dsimp only at hk ⊢
      subst hk
      refine cD (fun hlt => ?_) (fun hlt => ?_)
      · have hx : (up8 xs)[i + k]? = some (up8 xs)[i + k] := List.getElem?_eq_getElem (by omega)
        refine (one_ok h1 hx).use ?_
        rintro v w2 ⟨rfl, rfl⟩
        refine ⟨_, rfl, ?_⟩
        rw [IntWalk.i64_in ((k : Int) + 1) (by omega)]
        refine cB (fun hb => ?_) (fun hb => ?_)
        · have : ((up8 xs).drop i).any id = true := by
            rw [List.any_eq_true]
            refine ⟨true, ?_, rfl⟩
            rw [hb] at hx
            exact List.mem_of_getElem? (i := k) (by rw [List.getElem?_drop]; exact hx)
          rw [this]; exact ⟨rfl, h1, f1⟩
        · refine ⟨⟨rfl, k + 1, rfl, by omega, ?_⟩, by dsimp only; omega⟩
          rw [take_next hx, List.any_append, hz, hb]; rfl
      · have : k = ((up8 xs).drop i).length := by rw [List.length_drop, hU]; omega
        rw [this, List.take_length] at hz
        rw [hz]; exact ⟨rfl, h1, f1⟩
end
/-! ### The reference's reader -/
def RefAt (w : World) (ok : Nat → Prop) (b : Nat) (L : List Bool) (i : Nat) (E : Int) : Prop :=
  ok b ∧ i ≤ L.length ∧ L.length ≤ 8000000 ∧ ∃ A c, Blk w b 73 [.slice A L.length c, .int .i64 (i : Int), .int .i64 E] ∧ Own w 4 1 ok A L.length c (bls L)
section
variable {w : World} {ok : Nat → Prop} {b : Nat} {L : List Bool} {i : Nat} {E : Int}
theorem RefAt.fr {F : Nat → Prop} {w' : World} (h : RefAt w ok b L i E) (hf : Fr F w w') (hd : ∀ k, k < w.heap.size → ok k → ¬ F k) : RefAt w' ok b L i E := by
  obtain ⟨h0, h1, hm, A, c, h2, h3⟩ := h
  exact ⟨h0, h1, hm, A, c, h2.fr hf (hd b h2.lt h0), h3.fr hf hd⟩
theorem RefAt.mono {ok' : Nat → Prop} (h : RefAt w ok b L i E) (hk : ∀ k, k < w.heap.size → ok k → ok' k) : RefAt w ok' b L i E := by
  obtain ⟨h0, h1, hm, A, c, h2, h3⟩ := h
  exact ⟨hk b h2.lt h0, h1, hm, A, c, h2, h3.mono hk⟩
theorem RefAt.lt (h : RefAt w ok b L i E) : b < w.heap.size := by
  obtain ⟨_, _, _, A, c, h2, _⟩ := h
  exact h2.lt
theorem RefAt.cells (h : RefAt w ok b L i E) : (∃ A c, w.cell? ⟨b, 0, none⟩ = some (.slice A L.length c) ∧ Own w 4 1 ok A L.length c (bls L)) ∧ w.cell? ((⟨b, 0, none⟩ : Addr).add 1) = some (.int .i64 (i : Int)) ∧ w.cell? ((⟨b, 0, none⟩ : Addr).add 2) = some (.int .i64 E) := by
  obtain ⟨_, _, _, A, c, h2, h3⟩ := h
  exact ⟨⟨A, c, (h2.cell 0).trans rfl, h3⟩, by rw [add_g]; exact (h2.cell 1).trans rfl, by rw [add_g]; exact (h2.cell 2).trans rfl⟩
theorem RefAt.setI (h : RefAt w ok b L i E) {i' : Nat} (hi : i' ≤ L.length) : (∃ u, w.cell? ((⟨b, 0, none⟩ : Addr).add 1) = some u) ∧ w.frozen? ((⟨b, 0, none⟩ : Addr).add 1) = false ∧
    RefAt (w.setCell ((⟨b, 0, none⟩ : Addr).add 1) (.int .i64 (i' : Int))) ok b L i' E ∧ Fr (fun k => k = b) w (w.setCell ((⟨b, 0, none⟩ : Addr).add 1) (.int .i64 (i' : Int))) := by
  obtain ⟨h0, h1, hm, A, c, h2, h3⟩ := h
  rw [add_g]
  have f2 := Fr.setCell (F := fun k => k = b) w (p := ⟨b, 1, none⟩) rfl (.int .i64 (i' : Int))
  exact ⟨h2.has 1 (by simp), h2.free 1, ⟨h0, hi, hm, A, c, h2.set 1 _, h3.fr1 f2 fun a ha => h3.ne_blk h2 (by decide) a ha⟩, f2⟩
theorem RefAt.setE (h : RefAt w ok b L i E) (E' : Int) : (∃ u, w.cell? ((⟨b, 0, none⟩ : Addr).add 2) = some u) ∧ w.frozen? ((⟨b, 0, none⟩ : Addr).add 2) = false ∧
    RefAt (w.setCell ((⟨b, 0, none⟩ : Addr).add 2) (.int .i64 E')) ok b L i E' ∧ Fr (fun k => k = b) w (w.setCell ((⟨b, 0, none⟩ : Addr).add 2) (.int .i64 E')) := by
  obtain ⟨h0, h1, hm, A, c, h2, h3⟩ := h
  rw [add_g]
  have f2 := Fr.setCell (F := fun k => k = b) w (p := ⟨b, 2, none⟩) rfl (.int .i64 E')
  exact ⟨h2.has 2 (by simp), h2.free 2, ⟨h0, h1, hm, A, c, h2.set 2 _, h3.fr1 f2 fun a ha => h3.ne_blk h2 (by decide) a ha⟩, f2⟩
theorem RefAt.bit (h : RefAt w ok b L i E) {j : Nat} {x : Bool} (hx : L[j]? = some x) {A : Option Addr} {c : Nat} (ho : Own w 4 1 ok A L.length c (bls L)) : ∃ a, A = some a ∧ w.cell? (a.add (Int.toNat (j : Int) * 1)) = some (.bool x) := by
  obtain ⟨a, ha, _, cx⟩ := ho.rd.at (bls_get hx)
  exact ⟨a, ha, by rw [Int.toNat_natCast, Nat.mul_one]; exact cx⟩
theorem fget_ok (h : RefAt w ok b L i E) (many : Int) : Ret Try.prog 38 [.pointer (some ⟨b, 0, none⟩), .int .i64 many] w fun v w' => v = .int .u64 (getV ⟨L, i, E⟩ many : Int) ∧ RefAt w' ok b L (getS ⟨L, i, E⟩ many).i (getS ⟨L, i, E⟩ many).E ∧ Fr (fun k => k = b) w w' := by
  apply S38_calls
  have toB : ∀ {a b' : World}, Fr none1 a b' → Fr (fun k => k = b) a b' := fun f => f.mono fun _ _ h => h.elim
  have hb0 : ∀ {w w' : World}, Fr none1 w w' → RefAt w ok b L i E → RefAt w' ok b L i E := fun f h => h.fr f fun _ _ _ h => h
  obtain ⟨_, _, c2⟩ := h.cells
  have hh := h
  obtain ⟨_, hi, hm, _⟩ := hh
  -- the end with a fault
  have bad3 : ∀ (w1 : World) (E' : Int), E' ≠ 0 → RefAt w1 ok b L i E' → Fr (fun k => k = b) w w1 → getE ⟨L, i, E⟩ many = E' → S38_k3 (some ⟨b, 0, none⟩) many w1 (fun v w' => v = .int .u64 (getV ⟨L, i, E⟩ many : Int) ∧ RefAt w' ok b L (getS ⟨L, i, E⟩ many).i (getS ⟨L, i, E⟩ many).E ∧ Fr (fun k => k = b) w w') := by
    intro w1 E' hE' h1 f1 e
    obtain ⟨_, _, c2⟩ := h1.cells
    unfold getV getS
    rw [e, if_neg hE', if_neg hE']
    exact ⟨_, rfl, _, c2, cT (by simpa using hE') ⟨rfl, h1, f1⟩⟩
  have bad1 : ∀ (w1 : World) (E' : Int), E' ≠ 0 → RefAt w1 ok b L i E' → Fr (fun k => k = b) w w1 → getE ⟨L, i, E⟩ many = E' → S38_k1 (some ⟨b, 0, none⟩) many w1 (fun v w' => v = .int .u64 (getV ⟨L, i, E⟩ many : Int) ∧ RefAt w' ok b L (getS ⟨L, i, E⟩ many).i (getS ⟨L, i, E⟩ many).E ∧ Fr (fun k => k = b) w w') := by
    intro w1 E' hE' h1 f1 e
    have fd : Fr none1 w1 w1.drew := Fr.drew w1
    have h1d := h1.fr fd fun _ _ _ h => h
    obtain ⟨_, _, c2⟩ := h1d.cells
    exact ⟨_, rfl, _, c2, cF (by simpa using hE') (cF rfl (bad3 _ E' hE' h1d (f1.trans' (toB fd)) e))⟩
  refine ⟨_, rfl, _, c2, ?_⟩
  refine cD (fun hE => ?_) (fun hE => ?_)
  · subst hE
    have bad : (many < 0 ∨ 64 < many) → S38_k0 (some ⟨b, 0, none⟩) many true w fun v w' => v = .int .u64 (getV ⟨L, i, 0⟩ many : Int) ∧ RefAt w' ok b L (getS ⟨L, i, 0⟩ many).i (getS ⟨L, i, 0⟩ many).E ∧ Fr (fun k => k = b) w w' := fun hb => by
      have e : getE ⟨L, i, 0⟩ many = 1 := by unfold getE; rw [if_neg (by simp), if_pos hb]
      obtain ⟨s1, s2, s3, s4⟩ := h.setE 1
      exact cT rfl ⟨_, rfl, s1, s2, bad1 _ 1 (by decide) s3 s4 e⟩
    refine cD (fun h0 => bad (.inl h0)) (fun h0 => ?_)
    by_cases h1 : 64 < many
    · have := bad (.inr h1)
      rw [decide_eq_true h1]; exact this
    · rw [decide_eq_false h1]
      have fd : Fr none1 w w.drew := Fr.drew w
      have h1d := hb0 fd h
      obtain ⟨⟨A, c, c0, ho⟩, c1, c2⟩ := h1d.cells
      refine cF rfl ⟨_, rfl, _, c2, cT rfl ⟨_, rfl, _, rfl, _, _, _, c0, _, c1, ?_⟩⟩
      rw [IntWalk.i64_in _ (by omega)]
      have hleft : Rs.left ⟨L, i, 0⟩ = (L.length : Int) - (i : Int) := rfl
      refine cD (fun h2 => ?_) (fun h2 => ?_)
      · have e : getE ⟨L, i, 0⟩ many = 10 := by unfold getE; rw [if_neg (by simp), if_neg (by omega), if_pos (by omega)]
        obtain ⟨s1, s2, s3, s4⟩ := h1d.setE 10
        exact ⟨_, rfl, s1, s2, bad3 _ 10 (by decide) s3 ((toB fd).trans' s4) e⟩
      · have e : getE ⟨L, i, 0⟩ many = 0 := by unfold getE; rw [if_neg (by simp), if_neg (by omega), if_neg (by omega)]
        refine ⟨_, rfl, _, c2, cF rfl ?_⟩
        unfold getV getS
        rw [e, if_pos rfl, if_pos rfl]
        refine ⟨fun s w' => ∃ j : Nat, s.2.1 = (j : Int) ∧ j ≤ many.toNat ∧ s.1 = ((vl ((L.drop i).take j) : Nat) : Int) ∧ RefAt w' ok b L i 0 ∧ Fr (fun k => k = b) w w', fun s _ => many.toNat - s.2.1.toNat, ⟨0, rfl, Nat.zero_le _, by simp [vl], h1d, toB fd⟩, ?_⟩
        rintro J ⟨n, k, ⟨⟩⟩ w2 ⟨j, hk, hj, hn, h2', f2⟩
        dsimp only at hk hn ⊢
        subst hk hn
        refine cD (fun hlt => ?_) (fun hlt => ?_)
        · have fd2 : Fr none1 w2 w2.drew := Fr.drew w2
          have h3 := hb0 fd2 h2'
          have f3 := f2.trans' (toB fd2)
          obtain ⟨⟨A, c, c0, ho⟩, c1, _⟩ := h3.cells
          have hx : L[i + j]? = some L[i + j] := List.getElem?_eq_getElem (by omega)
          obtain ⟨a, rfl, cx⟩ := h3.bit hx ho
          have e0 : IntKind.i64.wrap ((i : Int) + (j : Int)) = ((i + j : Nat) : Int) := by rw [IntWalk.i64_in _ (by omega)]; omega
          refine ⟨_, rfl, _, rfl, _, c1, _, _, _, c0, _, rfl, by rw [e0]; omega, by rw [e0]; omega, L[i + j], by rw [e0]; exact cx, ?_⟩
          have hlen : ((L.drop i).take j).length = j := by rw [List.length_take, List.length_drop]; omega
          have hvl := vl_lt ((L.drop i).take j)
          rw [hlen] at hvl
          have hp : 2 ^ j ≤ 2 ^ 63 := Nat.pow_le_pow_right (by decide) (by omega)
          have e2 : IntKind.u64.wrap (((vl ((L.drop i).take j) : Nat) : Int) * 2) = ((2 * vl ((L.drop i).take j) : Nat) : Int) := by
            rw [IntWalk.u64_in _ (by omega)]; omega
          rw [e2]
          have nx := take_next (l := L) (i := i) (j := j) hx
          unfold S38_k7
          rw [IntWalk.i64_in ((j : Int) + 1) (by omega)]
          refine cB (fun hb => ?_) (fun hb => ?_)
          · refine ⟨⟨j + 1, rfl, by omega, ?_, h3, f3⟩, by dsimp only; omega⟩
            dsimp only
            rw [nx, vl_snoc, hb, IntWalk.u64_in _ (by omega)]
            simp only [Bool.toNat_true]; omega
          · refine ⟨⟨j + 1, rfl, by omega, ?_, h3, f3⟩, by dsimp only; omega⟩
            dsimp only
            rw [nx, vl_snoc, hb]; rfl
        · have : j = many.toNat := by omega
          subst this
          obtain ⟨_, c1, _⟩ := h2'.cells
          obtain ⟨s1, s2, s3, s4⟩ := h2'.setI (i' := i + many.toNat) (by omega)
          refine ⟨_, rfl, _, c1, _, rfl, s1, s2, ?_⟩
          rw [IntWalk.i64_in ((i : Int) + many) (by omega), show (i : Int) + many = ((i + many.toNat : Nat) : Int) by omega]
          exact ⟨rfl, s3, f2.trans' s4⟩
  · have e : getE ⟨L, i, E⟩ many = E := by unfold getE; rw [if_pos hE]
    exact cF rfl (bad1 w E hE h (Fr.refl _ _) e)
end
end Go.Proofs
