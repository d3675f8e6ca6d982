/- Packets: their bits, and how they are laid. -/
import Derived.Test.YtmhjjhpgbafjpaaCkCtop
import Derived.Test.YtmhjjhpgbafjpaaNtCtop
set_option linter.unusedVariables false
namespace Go.Proofs
open Go Go.Eng
structure Pk where
  hd : Bool
  n : Nat
  data : Bs
def Pok (p : Pk) : Prop := p.n ≤ 1000000 ∧ p.data.length ≤ 200 ∧ (p.hd = true → p.data = [])
def hb (p : Pk) : Nat := if p.hd then 1 else 0
def pbits (p : Pk) : List Bool := nb (hb p) 1 ++ (cb p.n ++ up8 p.data)
def layB (p : Pk) : Bs := framed (pk (pbits p))
def pcell (p : Pk) (A : Option Addr) (c : Nat) : List Value := [.bool p.hd, .int .u64 (p.n : Int), .slice A p.data.length c]
theorem cb_short {n : Nat} (h : n ≤ 1000000) : (cb n).length ≤ 127 := by
  rw [cb_length]
  have : lg (n + 1) < 63 := lg_lt (by omega) (by omega)
  omega
theorem pbits_len {p : Pk} (h : Pok p) : (pbits p).length ≤ 1728 ∧ (pk (pbits p)).length ≤ 217 := by
  obtain ⟨h1, h2, _⟩ := h
  have h3 := cb_short h1
  have : (pbits p).length ≤ 1728 := by
    unfold pbits
    rw [List.length_append, List.length_append, nb_length, up8_length]
    omega
  refine ⟨this, ?_⟩
  rw [pk_length]; omega
theorem layB_len {p : Pk} (h : Pok p) : 4 ≤ (layB p).length ∧ (layB p).length ≤ 300 := by
  have := (pbits_len h).2
  unfold layB
  rw [framed_length]; omega
theorem up8_take_succ {xs : Bs} {i : Nat} {b : UInt8} (h : xs[i]? = some b) : up8 (xs.take (i + 1)) = up8 (xs.take i) ++ nb b.toNat 8 := by
  rw [List.take_add_one, h, up8_append]; rfl
theorem llay_ok {w : World} {ok : Nat → Prop} {A : Option Addr} {c : Nat} {p : Pk} (h : Rd w ok A (bvs p.data)) (hp : Pok p) : Ret Try.prog 29 [.agg ⟨pcell p A c⟩] w fun v w' => ∃ A' c', v = .tuple ⟨[.slice A' (layB p).length c', .int .i64 0]⟩ ∧ Own w' 5 1 (from1 w.heap.size) A' (layB p).length c' (bvs (layB p)) ∧ Fr none1 w w' := by
  obtain ⟨h1, h2, h3⟩ := hp
  have hcb := cb_short h1
  apply S29_calls
  have bp := Blk.new w 58 (pcell p A c)
  have f0 : Fr none1 w (w.alloc (.cells ⟨pcell p A c⟩ 58)) := Fr.alloc _ _
  have r0 := (h.mono (ok' := fun k => k < w.heap.size) fun k hk _ => hk).fr f0 fun _ _ _ h => h
  unfold S29
  have hw : w.alloc (.cells ⟨[.bool p.hd, .int .u64 (p.n : Int), .slice A p.data.length c]⟩ 58) = w.alloc (.cells ⟨pcell p A c⟩ 58) := rfl
  rw [hw]
  have hpl := bp.lt
  generalize w.alloc (.cells ⟨pcell p A c⟩ 58) = w1 at bp f0 r0 hpl ⊢
  generalize hb0 : w.heap.size = b0 at *
  refine ⟨_, _, _, (bp.cell 2).trans rfl, cF (decide_eq_false (by omega)) ⟨_, (bp.cell 1).trans rfl, ?_⟩⟩
  rw [decide_eq_false (by omega : ¬ ((p.n : Nat) : Int) = 18446744073709551615)]
  -- the bits
  have body : S29_k2 ⟨b0, 0, none⟩ w1 (fun v w' => ∃ A' c', v = .tuple ⟨[.slice A' (layB p).length c', .int .i64 0]⟩ ∧ Own w' 5 1 (from1 b0) A' (layB p).length c' (bvs (layB p)) ∧ Fr none1 w w') := by
    have hB : w1.heap.size ≤ w1.heap.size := Nat.le_refl _
    refine (newB (B := w1.heap.size) hB).use ?_
    rintro v w2 ⟨b, rfl, k2, f2⟩
    have bp2 := bp.fr f2 fun h => h
    refine ⟨_, rfl, _, (bp2.cell 0).trans rfl, ?_⟩
    have hE : putE [] 1 = 0 := putE_eq (by decide) (by simp)
    have rest : ∀ {w3}, WrB w1.heap.size w3 b (nb (hb p) 1) → Bel w1.heap.size w1 w3 → S29_k3 ⟨b0, 0, none⟩ (some ⟨b, 0, none⟩) (some ⟨b, 0, none⟩) w3 (fun v w' => ∃ A' c', v = .tuple ⟨[.slice A' (layB p).length c', .int .i64 0]⟩ ∧ Own w' 5 1 (from1 b0) A' (layB p).length c' (bvs (layB p)) ∧ Fr none1 w w') := by
      intro w3 k3 g3
      have nF : ∀ {k}, k < w1.heap.size → ¬ from1 w1.heap.size k := fun hk hf => by have hf : w1.heap.size ≤ _ := hf; omega
      have bp3 := bp.fr g3 (nF hpl)
      refine ⟨_, by rw [add_g]; exact (bp3.cell 1).trans rfl, ?_⟩
      obtain ⟨c1, c2, c3⟩ := cntE_eq (L := nb (hb p) 1) (x := p.n) (by omega) (by rw [nb_length]; omega)
      refine (countB k3 (n := p.n) (by omega)).use ?_
      rintro v w4 ⟨rfl, k4, g4⟩
      rw [c2] at k4
      have g14 := g3.trans' g4
      have bp4 := bp.fr g14 (nF hpl)
      refine ⟨_, rfl, _, _, _, by rw [add_g]; exact (bp4.cell 2).trans rfl, ?_⟩
      refine ⟨fun s w' => ∃ i : Nat, s.1 = (i : Int) ∧ i ≤ p.data.length ∧ WrB w1.heap.size w' b (nb (hb p) 1 ++ cb p.n ++ up8 (p.data.take i)) ∧ Bel w1.heap.size w1 w', fun s _ => p.data.length - s.1.toNat, ⟨0, rfl, Nat.zero_le _, by simpa [up8] using k4, g14⟩, ?_⟩
      rintro J ⟨i', ⟨⟩⟩ w5 ⟨i, hi, hil, k5, g5⟩
      dsimp only at hi ⊢
      subst hi
      refine cD (fun hlt => ?_) (fun hlt => ?_)
      · have hlt' : i < p.data.length := by have : (i : Int) < (p.data.length : Int) := hlt; omega
        have hx : p.data[i]? = some p.data[i] := List.getElem?_eq_getElem hlt'
        generalize p.data[i] = x at hx
        have r5 := r0.fr g5 fun k hk ho hf => by
          have ho : k < b0 := ho
          have hf : w1.heap.size ≤ k := hf
          omega
        obtain ⟨a, ha, _, hc⟩ := r5.at (bvs_get hx)
        have hxl := x.toNat_lt
        have ew : IntKind.u64.wrap ((x.toNat : Nat) : Int) = ((x.toNat : Nat) : Int) := by simp [IntKind.wrap, IntKind.bits, IntKind.signed]; omega
        refine ⟨a, ha, by omega, by omega, (x.toNat : Int), by rw [Int.toNat_natCast, Nat.mul_one]; exact hc, ?_⟩
        rw [ew]
        have hlen : (nb (hb p) 1 ++ cb p.n ++ up8 (p.data.take i)).length ≤ 2000 := by
          rw [List.length_append, List.length_append, nb_length, up8_length, List.length_take]; omega
        have hE8 : putE (nb (hb p) 1 ++ cb p.n ++ up8 (p.data.take i)) 8 = 0 := putE_eq (by decide) (by omega)
        refine (putB k5 (n := x.toNat) (by omega) 8).use ?_
        rintro v w6 ⟨rfl, k6, g6⟩
        rw [putL_eq hE8] at k6
        refine ⟨_, rfl, ?_⟩
        rw [IntWalk.i64_in _ (by omega)]
        refine ⟨⟨i + 1, rfl, by omega, ?_, g5.trans' g6⟩, by dsimp only; omega⟩
        rw [up8_take_succ hx, ← List.append_assoc]
        exact k6
      · have hge : i = p.data.length := by have : ¬ (i : Int) < (p.data.length : Int) := hlt; omega
        rw [hge, List.take_length, List.append_assoc] at k5
        have k5' : WrB w1.heap.size w5 b (pbits p) := k5
        refine (wout_ok k5'.1).use ?_
        rintro v w6 ⟨A6, c6, rfl, o6, f6⟩
        have hpl2 := (pbits_len ⟨h1, h2, h3⟩).2
        refine ⟨_, _, _, rfl, ?_⟩
        refine (frame_ok (c := c6) o6.rd (by omega)).use ?_
        rintro v w7 ⟨A7, c7, rfl, o7, f7⟩
        rw [frV_ok (by omega)] at o7 ⊢
        have g57 := g5.trans' (f6.bel0.trans' f7.bel0)
        have hs1 := f0.size
        have hs5 := g5.size
        have hs6 := f6.size
        refine ⟨_, _, _, _, rfl, A7, c7, rfl, o7.mono fun k _ hk => ?_, f0.trans g57 fun k hk hf => ?_⟩
        · have : w6.heap.size ≤ k := hk.1
          show b0 ≤ k
          omega
        · have hf : w1.heap.size ≤ k := hf
          omega
    cases hh : p.hd with
    | true =>
      have e1 : hb p = 1 := by unfold hb; rw [hh]; rfl
      refine cT rfl ?_
      refine (putB k2 (n := 1) (by decide) 1).use ?_
      rintro v w3 ⟨rfl, k3, g3⟩
      rw [putL_eq hE, List.nil_append] at k3
      exact ⟨_, rfl, rest (by rw [e1]; exact k3) (f2.bel0.trans' g3)⟩
    | false =>
      have e1 : hb p = 0 := by unfold hb; rw [hh]; rfl
      refine cF rfl ?_
      refine (putB k2 (n := 0) (by decide) 1).use ?_
      rintro v w3 ⟨rfl, k3, g3⟩
      rw [putL_eq hE, List.nil_append] at k3
      exact ⟨_, rfl, rest (by rw [e1]; exact k3) (f2.bel0.trans' g3)⟩
  refine cF rfl ⟨_, (bp.cell 0).trans rfl, cB (fun hh => ?_) (fun hh => cF rfl body)⟩
  refine ⟨_, _, _, by rw [add_g]; exact (bp.cell 2).trans rfl, cF (decide_eq_false (by rw [h3 hh]; simp)) body⟩
end Go.Proofs
