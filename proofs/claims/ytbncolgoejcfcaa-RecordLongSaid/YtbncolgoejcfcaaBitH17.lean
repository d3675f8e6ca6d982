/- The reference's reader: counts, the end, and the reader of bytes. -/
import Derived.Test.YtbncolgoejcfcaaBitG17
set_option linter.unusedVariables false
namespace Go.Proofs
open Go Go.Eng
section
variable {w : World} {ok : Nat → Prop} {b : Nat} {L : List Bool} {i : Nat} {E : Int}
theorem RefAt.fr0 {w' : World} (h : RefAt w ok b L i E) (f : Fr none1 w w') : RefAt w' ok b L i E := h.fr f fun _ _ _ h => h
theorem frc_k4 {w0 : World} {k : Nat} (h2 : RefAt w ok b L i 0) (f2 : Fr (fun k => k = b) w0 w) (hz : ∀ j, j < k → (L.drop i)[j]? = some false) (hle : k ≤ L.length - i) (he : k = (L.drop i).length ∨ (L.drop i)[k]? = some true) :
    S39_k4 (some ⟨b, 0, none⟩) (i : Int) (k : Int) w fun v w' => v = .int .u64 (rcV ⟨L, i, 0⟩ : Int) ∧ RefAt w' ok b L (rcS ⟨L, i, 0⟩).i (rcS ⟨L, i, 0⟩).E ∧ Fr (fun k => k = b) w0 w' := by
  have hh := h2
  obtain ⟨_, hi, hm, _⟩ := hh
  have hdl : (L.drop i).length = L.length - i := List.length_drop
  have hzs : zs (L.drop i) = k := zs_eq hz he
  have hleft : Rs.left ⟨L, i, 0⟩ = (L.length : Int) - (i : Int) := rfl
  refine cD (fun h63 => ?_) (fun h63 => ?_)
  · have e : rcE ⟨L, i, 0⟩ = 4 := by unfold rcE; rw [if_neg (by simp), if_pos (by simp only [hzs]; omega)]
    unfold rcV rcS
    rw [e]
    obtain ⟨s1, s2, s3, s4⟩ := h2.setE 4
    exact ⟨_, rfl, s1, s2, rfl, s3, f2.trans' s4⟩
  · obtain ⟨_, c1, _⟩ := h2.cells
    obtain ⟨s1, s2, s3, s4⟩ := h2.setI (i' := i + k) (by omega)
    refine ⟨_, rfl, _, c1, _, rfl, s1, s2, ?_⟩
    rw [IntWalk.i64_in ((i : Int) + (k : Int)) (by omega), IntWalk.i64_in ((k : Int) + 1) (by omega), show (i : Int) + (k : Int) = ((i + k : Nat) : Int) by omega]
    refine (fget_ok s3 ((k : Int) + 1)).use ?_
    have hleft2 : Rs.left ⟨L, i + k, 0⟩ = (L.length : Int) - ((i + k : Nat) : Int) := rfl
    by_cases hs : (L.length : Int) - (i : Int) < 2 * (k : Int) + 1
    · have e : rcE ⟨L, i, 0⟩ = 10 := by unfold rcE; rw [if_neg (by simp), if_neg (by simp only [hzs]; omega), if_pos (by simp only [hzs]; omega)]
      have eg : getE ⟨L, i + k, 0⟩ ((k : Int) + 1) = 10 := by
        unfold getE
        rw [if_neg (by simp), if_neg (by omega), if_pos (by omega)]
      unfold getV getS rcV rcS
      rw [eg, e]
      rintro v w3 ⟨rfl, h3, f3⟩
      have h3' : RefAt w3 ok b L (i + k) 10 := h3
      obtain ⟨_, _, c2⟩ := h3'.cells
      obtain ⟨t1, t2, t3, t4⟩ := h3'.setI (i' := i) hi
      exact ⟨_, rfl, _, rfl, _, c2, cT rfl ⟨_, rfl, t1, t2, rfl, t3, ((f2.trans' s4).trans' f3).trans' t4⟩⟩
    · have e : rcE ⟨L, i, 0⟩ = 0 := by unfold rcE; rw [if_neg (by simp), if_neg (by simp only [hzs]; omega), if_neg (by simp only [hzs]; omega)]
      have eg : getE ⟨L, i + k, 0⟩ ((k : Int) + 1) = 0 := by
        unfold getE
        rw [if_neg (by simp), if_neg (by omega), if_neg (by omega)]
      unfold getV getS rcV rcS
      rw [eg, e, if_pos rfl, if_pos rfl, if_pos rfl, if_pos rfl, show ((k : Int) + 1).toNat = k + 1 by omega]
      simp only [hzs]
      rintro v w3 ⟨rfl, h3, f3⟩
      obtain ⟨_, _, c2⟩ := h3.cells
      have ht : L[i + k]? = some true := by
        rcases he with he | he
        · omega
        · rw [List.getElem?_drop] at he; exact he
      have hp := vl_pos ht k
      have hv := vl_lt ((L.drop (i + k)).take (k + 1))
      have hl2 : ((L.drop (i + k)).take (k + 1)).length = k + 1 := by rw [List.length_take, List.length_drop]; omega
      rw [hl2] at hv
      have hpow : 2 ^ (k + 1) ≤ 2 ^ 64 := Nat.pow_le_pow_right (by decide) (by omega)
      refine ⟨_, rfl, _, rfl, _, c2, cF rfl ⟨?_, ?_, (f2.trans' s4).trans' f3⟩⟩
      · rw [IntWalk.u64_in _ (by omega)]
        congr 1; omega
      · rw [show i + (2 * k + 1) = i + k + (k + 1) by omega]; exact h3
theorem frcount_ok (h : RefAt w ok b L i E) : Ret Try.prog 39 [.pointer (some ⟨b, 0, none⟩)] w fun v w' => v = .int .u64 (rcV ⟨L, i, E⟩ : Int) ∧ RefAt w' ok b L (rcS ⟨L, i, E⟩).i (rcS ⟨L, i, E⟩).E ∧ Fr (fun k => k = b) w w' := by
  apply S39_calls
  obtain ⟨_, c1, c2⟩ := h.cells
  have hh := h
  obtain ⟨_, hi, hm, _⟩ := hh
  refine ⟨_, rfl, _, c2, ?_⟩
  refine cN (fun hE => ?_) (fun hE => ?_)
  · have e : rcE ⟨L, i, E⟩ = E := by unfold rcE; rw [if_pos hE]
    unfold rcV rcS
    rw [e, if_neg hE, if_neg hE]
    exact ⟨rfl, h, Fr.refl _ _⟩
  · subst hE
    have hdl : (L.drop i).length = L.length - i := List.length_drop
    refine ⟨_, rfl, _, c1, fun s w' => ∃ k : Nat, s.1 = (k : Int) ∧ k ≤ L.length - i ∧ (∀ j, j < k → (L.drop i)[j]? = some false) ∧ RefAt w' ok b L i 0 ∧ Fr (fun k => k = b) w w', fun s _ => L.length - i - s.1.toNat, ⟨0, rfl, Nat.zero_le _, fun j hj => by omega, h, Fr.refl _ _⟩, ?_⟩
    rintro J ⟨k', ⟨⟩⟩ w2 ⟨k, hk, hle, hz, h2, f2⟩
    dsimp only at hk ⊢
    subst hk
    have fd : Fr none1 w2 w2.drew := Fr.drew w2
    have h3 := h2.fr0 fd
    have f3 := f2.trans' (fd.mono fun _ _ h => h.elim : Fr (fun k => k = b) w2 w2.drew)
    unfold S39_L1
    generalize w2.drew = w3 at h3 f3 ⊢
    obtain ⟨⟨A, c, c0, ho⟩, c1, _⟩ := h3.cells
    have e0 : IntKind.i64.wrap ((i : Int) + (k : Int)) = ((i + k : Nat) : Int) := by rw [IntWalk.i64_in _ (by omega)]; omega
    by_cases hlt : i + k < L.length
    · have hx : L[i + k]? = some L[i + k] := List.getElem?_eq_getElem hlt
      obtain ⟨a, rfl, cx⟩ := h3.bit hx ho
      have k2 : S39_k2 (some ⟨b, 0, none⟩) (i : Int) (k : Int) (!L[i + k]) w3 (fun v w' => v = .int .u64 (rcV ⟨L, i, 0⟩ : Int) ∧ RefAt w' ok b L (rcS ⟨L, i, 0⟩).i (rcS ⟨L, i, 0⟩).E ∧ Fr (fun k => k = b) w w')
          (fun s' w'' => (∃ k : Nat, s'.1 = (k : Int) ∧ k ≤ L.length - i ∧ (∀ j, j < k → (L.drop i)[j]? = some false) ∧ RefAt w'' ok b L i 0 ∧ Fr (fun k => k = b) w w'') ∧ L.length - i - s'.1.toNat < L.length - i - (k : Int).toNat) := by
        cases hb : L[i + k] with
        | true => exact cF rfl (frc_k4 h3 f3 hz (by omega) (.inr (by rw [List.getElem?_drop, hx, hb])))
        | false =>
          refine cT rfl ?_
          unfold S39_k3
          rw [IntWalk.i64_in ((k : Int) + 1) (by omega)]
          refine ⟨⟨k + 1, rfl, by omega, fun j hj => ?_, h3, f3⟩, by dsimp only; omega⟩
          by_cases e : j = k
          · subst e; rw [List.getElem?_drop, hx, hb]
          · exact hz j (by omega)
      have d : decide (((i + k : Nat) : Int) < ((L.length : Nat) : Int)) = true := by rw [decide_eq_true]; omega
      refine ⟨_, rfl, _, rfl, ⟨_, c1, _, _, _, c0, ?_⟩, ⟨_, _, _, c0, _, c1, ?_⟩⟩
      · rw [e0]
        exact cT d ⟨_, rfl, _, rfl, _, c1, _, _, _, c0, _, rfl, by rw [e0]; omega, by rw [e0]; omega, _, by rw [e0]; exact cx, k2⟩
      · rw [e0]
        exact cT d ⟨_, rfl, _, rfl, _, c1, _, _, _, c0, _, rfl, by rw [e0]; omega, by rw [e0]; omega, _, by rw [e0]; exact cx, k2⟩
    · have d : decide (((i + k : Nat) : Int) < ((L.length : Nat) : Int)) = false := by rw [decide_eq_false]; omega
      have fin := frc_k4 h3 f3 hz (by omega) (.inl (by omega))
      refine ⟨_, rfl, _, rfl, ⟨_, c1, _, _, _, c0, ?_⟩, ⟨_, _, _, c0, _, c1, ?_⟩⟩
      · rw [e0]; exact cF d (cF rfl fin)
      · rw [e0]; exact cF d (cF rfl fin)
theorem fend_ok (h : RefAt w ok b L i E) : Ret Try.prog 40 [.pointer (some ⟨b, 0, none⟩)] w fun v w' => v = .int .i64 (endV ⟨L, i, E⟩) ∧ RefAt w' ok b L i E ∧ Fr none1 w w' := by
  apply S40_calls
  obtain ⟨_, _, c2⟩ := h.cells
  have hh := h
  obtain ⟨_, hi, hm, _⟩ := hh
  refine ⟨_, rfl, _, c2, ?_⟩
  refine cN (fun hE => ?_) (fun hE => ?_)
  · have e : endV ⟨L, i, E⟩ = E := by unfold endV; rw [if_pos hE]
    rw [e]
    exact ⟨_, rfl, _, c2, rfl, h, Fr.refl _ _⟩
  · subst hE
    have fd : Fr none1 w w.drew := Fr.drew w
    have h1 := h.fr0 fd
    unfold S40_k0
    generalize w.drew = w1 at fd h1 ⊢
    obtain ⟨⟨A, c, c0, ho⟩, c1, _⟩ := h1.cells
    have hleft : Rs.left ⟨L, i, 0⟩ = (L.length : Int) - (i : Int) := rfl
    refine ⟨_, rfl, _, rfl, _, _, _, c0, _, c1, ?_⟩
    rw [IntWalk.i64_in ((L.length : Int) - (i : Int)) (by omega)]
    refine cD (fun h7 => ?_) (fun h7 => ?_)
    · have e : endV ⟨L, i, 0⟩ = 11 := by unfold endV; rw [if_neg (by simp), if_pos (by omega)]
      rw [e]; exact ⟨rfl, h1, fd⟩
    · have e : endV ⟨L, i, 0⟩ = if (L.drop i).any id then 11 else 0 := by unfold endV; rw [if_neg (by simp), if_neg (by omega)]
      rw [e]
      refine ⟨_, rfl, _, c1, fun s w' => w' = w1 ∧ ∃ k : Nat, s.1 = ((i + k : Nat) : Int) ∧ i + k ≤ L.length ∧ ((L.drop i).take k).any id = false, fun s _ => L.length - s.1.toNat, ⟨rfl, 0, rfl, hi, by simp⟩, ?_⟩
      rintro J ⟨k', ⟨⟩⟩ w2 ⟨rfl, k, hk, hle, hz⟩
      dsimp only at hk ⊢
      subst hk
      refine ⟨_, rfl, _, _, _, c0, ?_⟩
      refine cD (fun hlt => ?_) (fun hlt => ?_)
      · have hx : L[i + k]? = some L[i + k] := List.getElem?_eq_getElem (by omega)
        obtain ⟨a, rfl, cx⟩ := h1.bit hx ho
        refine ⟨_, rfl, _, _, _, c0, _, rfl, by omega, by omega, _, cx, ?_⟩
        rw [IntWalk.i64_in (((i + k : Nat) : Int) + 1) (by omega)]
        refine cB (fun hb => ?_) (fun hb => ?_)
        · have : (L.drop i).any id = true := by
            rw [List.any_eq_true]
            refine ⟨true, ?_, rfl⟩
            rw [hb] at hx
            exact List.mem_of_getElem? (i := k) (by rw [List.getElem?_drop]; exact hx)
          rw [this]; exact ⟨rfl, h1, fd⟩
        · refine ⟨⟨rfl, k + 1, by dsimp only; omega, by omega, ?_⟩, by dsimp only; omega⟩
          rw [take_next hx, List.any_append, hz, hb]; rfl
      · have : k = (L.drop i).length := by rw [List.length_drop]; omega
        rw [this, List.take_length] at hz
        rw [hz]; exact ⟨rfl, h1, fd⟩
end
theorem ref_app {w : World} {B b l5 : Nat} {L M : List Bool} {A4 A5 : Option Addr} {c4 c5 : Nat} {okn : Nat → Prop} (h : RefAt w (bw B w) b L 0 0) (hB : B ≤ w.heap.size) (hc : w.cell? ⟨b, 0, none⟩ = some (.slice A5 l5 c5)) (hM : Own w 4 1 okn A4 M.length c4 (bls M)) (hl : L.length + M.length ≤ 8000000) :
    ∃ A' c' w', (Builtin.append_ #[50, 50] 50 ⟨[.slice A5 l5 c5, .slice A4 M.length c4]⟩).run Try.prog w = .ok (.slice A' (L.length + M.length) c') w' ∧ (∃ u, w'.cell? ⟨b, 0, none⟩ = some u) ∧ w'.frozen? ⟨b, 0, none⟩ = false ∧
      RefAt (w'.setCell ⟨b, 0, none⟩ (.slice A' (L.length + M.length) c')) (bw B (w'.setCell ⟨b, 0, none⟩ (.slice A' (L.length + M.length) c'))) b (L ++ M) 0 0 ∧ Bel B w (w'.setCell ⟨b, 0, none⟩ (.slice A' (L.length + M.length) c')) := by
  obtain ⟨h0, _, hm, A, c, hb, ho⟩ := h
  rw [hb.cell] at hc
  simp at hc
  obtain ⟨rfl, rfl, rfl⟩ := hc
  obtain ⟨A', c', w', r, o, f, g⟩ := appB (ty := 50) (m := M.length) (c2 := c4) Ebo ho hB (by rw [bls_length]; omega) hM.rd (bls_one _) (by omega) (by simp only [maxLen]; omega)
  have b2 := hb.fr f (fun ⟨a, ha, e⟩ => ho.ne_blk hb (by decide) a ha e)
  have b3 := b2.set 0 (.slice A' (L.length + M.length) c')
  have f3 := Fr.setCell (F := fun k => k = b) w' (p := ⟨b, 0, none⟩) rfl (.slice A' (L.length + M.length) c')
  refine ⟨A', c', w', r, b2.has 0 (by simp), b2.free 0, ⟨⟨h0.1, b3.lt⟩, Nat.zero_le _, by rw [List.length_append]; omega, A', c', ?_, ?_⟩, g.trans' (f3.bel fun k e => by subst e; exact h0.1)⟩
  · rw [List.length_append]; exact b3
  · rw [List.length_append, bls_append]
    exact (o.fr1 f3 fun a ha => o.ne_blk b2 (by decide) a ha).mono fun k hk h => ⟨h.1, hk⟩
theorem of_ok {w : World} {xs : List UInt8} {A : Option Addr} {c : Nat} {ok : Nat → Prop} (h : Rd w ok A (bvs xs)) (hm : xs.length ≤ 1000000) :
    Ret Try.prog 37 [.slice A xs.length c] w fun v w' => ∃ b, v = .pointer (some ⟨b, 0, none⟩) ∧ RefAt w' (bw w.heap.size w') b (up8 xs) 0 0 ∧ Fr none1 w w' := by
  apply S37_calls
  have a1 : Fr none1 w (w.alloc (.cells ⟨[.slice none 0 0, .int .i64 0, .int .i64 0]⟩ 73)) := Fr.alloc _ _
  have b1 := Blk.new w 73 [.slice none 0 0, .int .i64 0, .int .i64 0]
  have hlt := b1.lt
  unfold S37
  generalize hw1 : w.alloc (.cells ⟨[.slice none 0 0, .int .i64 0, .int .i64 0]⟩ 73) = w1 at a1 b1 hlt ⊢
  refine ⟨fun s w' => ∃ n : Nat, s.1 = (n : Int) ∧ n ≤ xs.length ∧ RefAt w' (bw w.heap.size w') w.heap.size (up8 (xs.take n)) 0 0 ∧ Bel w.heap.size w w', fun s _ => xs.length - s.1.toNat, ⟨0, rfl, Nat.zero_le _, ⟨⟨Nat.le_refl _, hlt⟩, Nat.zero_le _, by simp [up8], none, 0, b1, Own.nil _ _ _ _⟩, a1.bel0⟩, ?_⟩
  rintro J ⟨n', ⟨⟩⟩ w2 ⟨n, hn, hle, h2, g2⟩
  dsimp only at hn ⊢
  subst hn
  refine cD (fun hlt => ?_) (fun hlt => ?_)
  · have fd : Fr none1 w2 w2.drew := Fr.drew w2
    have h3 := (h2.fr0 fd).mono fun k hk h => (⟨h.1, hk⟩ : bw w.heap.size w2.drew k)
    have g3 := g2.trans' fd.bel0
    unfold S37_k1
    generalize w2.drew = w3 at fd h3 g3 ⊢
    have hx : xs[n]? = some xs[n] := List.getElem?_eq_getElem (by omega)
    obtain ⟨a, rfl, _, cx⟩ := (h.fr g3 fun k hk _ h => by simp only [from1] at h; omega).at (bvs_get hx)
    have eu : IntKind.u64.wrap (xs[n].toNat : Int) = ((xs[n].toNat : Nat) : Int) := IntWalk.u64_in _ (by have := xs[n].toNat_lt; omega)
    have h8 : xs[n].toNat < 2 ^ 64 := by have := xs[n].toNat_lt; omega
    have htl : (xs.take n).length = n := by rw [List.length_take]; omega
    have hul : (up8 (xs.take n)).length = 8 * n := by rw [up8_length, htl]
    have et : up8 (xs.take (n + 1)) = up8 (xs.take n) ++ by8 xs[n] := by
      rw [List.take_add_one, hx, up8_append]; simp [up8]
    have hby := by8_length xs[n]
    have hB3 : w.heap.size ≤ w3.heap.size := g3.size
    refine ⟨_, rfl, _, rfl, by omega, by omega, _, by rw [Int.toNat_natCast, Nat.mul_one]; exact cx, ?_⟩
    rw [eu]
    obtain ⟨⟨A5, c5, c0, _⟩, _, _⟩ := h3.cells
    rw [IntWalk.i64_in ((n : Int) + 1) (by omega)]
    have step : ∀ (v : Value) (w4 : World), (∃ A c, v = .slice A 8 c ∧ Own w4 4 1 (bw w3.heap.size w4) A 8 c (bls (nb xs[n].toNat 8)) ∧ Fr none1 w3 w4) →
        ∃ A4 c4, v = .slice A4 8 c4 ∧ w4.cell? ⟨w.heap.size, 0, none⟩ = some (.slice A5 (up8 (xs.take n)).length c5) ∧
        ∃ A' c' w', (Builtin.append_ #[50, 50] 50 ⟨[.slice A5 (up8 (xs.take n)).length c5, .slice A4 8 c4]⟩).run Try.prog w4 = .ok (.slice A' ((up8 (xs.take n)).length + 8) c') w' ∧ (∃ u, w'.cell? ⟨w.heap.size, 0, none⟩ = some u) ∧ w'.frozen? ⟨w.heap.size, 0, none⟩ = false ∧
          RefAt (w'.setCell ⟨w.heap.size, 0, none⟩ (.slice A' ((up8 (xs.take n)).length + 8) c')) (bw w.heap.size (w'.setCell ⟨w.heap.size, 0, none⟩ (.slice A' ((up8 (xs.take n)).length + 8) c'))) w.heap.size (up8 (xs.take (n + 1))) 0 0 ∧ Bel w.heap.size w (w'.setCell ⟨w.heap.size, 0, none⟩ (.slice A' ((up8 (xs.take n)).length + 8) c')) := by
      rintro v w4 ⟨A4, c4, rfl, o4, f4⟩
      have h4 := (h3.fr0 f4).mono fun k hk h => (⟨h.1, hk⟩ : bw w.heap.size w4 k)
      have cc : w4.cell? ⟨w.heap.size, 0, none⟩ = some (.slice A5 (up8 (xs.take n)).length c5) := by rw [← c0]; exact f4.cell h3.lt (fun h => h)
      obtain ⟨A', c', w', r, u1, u2, r5, g5⟩ := ref_app (M := by8 xs[n]) h4 (Nat.le_trans hB3 f4.size) cc (by rw [hby]; exact o4) (by omega)
      rw [hby] at r r5 g5
      exact ⟨A4, c4, rfl, cc, A', c', w', r, u1, u2, by rw [et]; exact r5, (g3.trans' f4.bel0).trans' g5⟩
    refine ⟨⟨_, _, _, c0, ?_⟩, ?_⟩
    · refine (fbits_ok h8 (m := 8) (by decide) w3).use fun v w4 hv => ?_
      obtain ⟨A4, c4, rfl, cc, A', c', w', r, u1, u2, r5, g5⟩ := step v w4 hv
      exact ⟨_, _, _, rfl, _, _, _, w', r, _, rfl, u1, u2, ⟨n + 1, rfl, by omega, r5, g5⟩, by dsimp only; omega⟩
    · refine (fbits_ok h8 (m := 8) (by decide) w3).use fun v w4 hv => ?_
      obtain ⟨A4, c4, rfl, cc, A', c', w', r, u1, u2, r5, g5⟩ := step v w4 hv
      exact ⟨_, _, _, rfl, _, _, _, cc, _, _, _, w', r, _, rfl, u1, u2, ⟨n + 1, rfl, by omega, r5, g5⟩, by dsimp only; omega⟩
  · have : n = xs.length := by omega
    subst this
    rw [List.take_length] at h2
    exact ⟨_, rfl, h2, g2.top⟩
end Go.Proofs
