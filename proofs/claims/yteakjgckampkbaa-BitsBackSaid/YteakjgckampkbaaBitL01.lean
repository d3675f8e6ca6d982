/- The law of what is left. -/
import Derived.Test.YteakjgckampkbaaBitK01
set_option linter.unusedVariables false
namespace Go.Proofs
open Go Go.Eng
theorem rcV_zero {s : Rs} (h : rcE s ≠ 0) : rcV s = 0 := if_neg h
theorem rcS_fault {s : Rs} (h : rcE s ≠ 0) : rcS s = ⟨s.L, s.i, rcE s⟩ := if_neg h
theorem getS_fault {s : Rs} {m : Int} (h : getE s m ≠ 0) : getS s m = ⟨s.L, s.i, getE s m⟩ := if_neg h
theorem getS_eq {s : Rs} {m : Int} (h : getE s m = 0) : getS s m = ⟨s.L, s.i + m.toNat, s.E⟩ := if_pos h
theorem rcV_lg {s : Rs} (h : rcE s = 0) : s.E = 0 ∧ rcV s + 1 < 2 ^ 64 ∧ rcS s = ⟨s.L, s.i + (2 * lg (rcV s + 1) + 1), 0⟩ ∧ s.i + (2 * lg (rcV s + 1) + 1) ≤ s.L.length := by
  have h' := h
  unfold rcE at h'
  by_cases hE : s.E ≠ 0
  · rw [if_pos hE] at h'; exact absurd h' hE
  · rw [if_neg hE] at h'
    have hE0 : s.E = 0 := by simpa using hE
    have hz := zs_le (s.L.drop s.i)
    have hl : (s.L.drop s.i).length = s.L.length - s.i := List.length_drop
    generalize hzz : zs (s.L.drop s.i) = z at h' hz
    by_cases h63 : 63 < z
    · rw [if_pos h63] at h'; cases h'
    · rw [if_neg h63] at h'
      by_cases hs : s.left < 2 * (z : Int) + 1
      · rw [if_pos hs] at h'; cases h'
      · have hs' : ¬ ((s.L.length : Int) - (s.i : Int) < 2 * (z : Int) + 1) := hs
        have ht : s.L[s.i + z]? = some true := by
          have := zs_true (s.L.drop s.i) (by omega)
          rwa [hzz, List.getElem?_drop] at this
        have hv := vl_lt ((s.L.drop (s.i + z)).take (z + 1))
        have hl2 : ((s.L.drop (s.i + z)).take (z + 1)).length = z + 1 := by rw [List.length_take, List.length_drop]; omega
        rw [hl2] at hv
        have hlo : 2 ^ z ≤ vl ((s.L.drop (s.i + z)).take (z + 1)) := by
          have hi := (List.getElem?_eq_some_iff.1 ht).1
          rw [List.drop_eq_getElem_cons hi, (List.getElem?_eq_some_iff.1 ht).2, List.take_succ_cons, vl_cons]
          have : ((s.L.drop (s.i + z + 1)).take z).length = z := by rw [List.length_take, List.length_drop]; omega
          rw [this]; simp
        have hpow : 2 ^ (z + 1) ≤ 2 ^ 64 := Nat.pow_le_pow_right (by decide) (by omega)
        have hp := Nat.two_pow_pos z
        have hV : rcV s + 1 = vl ((s.L.drop (s.i + z)).take (z + 1)) := by
          unfold rcV; rw [if_pos h, hzz]; omega
        have hlg : lg (rcV s + 1) = z := by
          rw [hV]; exact (Nat.log2_eq_iff (by omega)).2 ⟨hlo, hv⟩
        refine ⟨hE0, by omega, ?_, by rw [hlg]; omega⟩
        rw [hlg]
        unfold rcS
        rw [if_pos h, hzz, hE0]
section
variable {B : Nat} {W w : World} {b : Nat} {xs : List UInt8} {i : Nat} {E : Int}
/-- What the law keeps: a reader whose fault is told by ok. -/
def LeftI (W : World) (b : Nat) (xs : List UInt8) (ok : Bool) (w : World) : Prop := ∃ (i : Nat) (E : Int), RdB W.heap.size w b xs i E ∧ (ok = true ↔ E = 0) ∧ Bel W.heap.size W w
theorem left_k12 {R : Value → World → Prop} {B1 : Bool × Int × Unit → World → Prop} {t : Nat} {o : Bool} {many : Int} {A : Option Addr} {l c : Nat} {n : Int} {cnt : Nat} {w0 : World} (hmi : IntKind.i64.min ≤ many ∧ many ≤ IntKind.i64.max)
    (hg : Bel W.heap.size W w0) (hr : RdB W.heap.size w b xs (getS ⟨up8 xs, i, E⟩ many).i (getS ⟨up8 xs, i, E⟩ many).E) (hi : i ≤ 8 * xs.length) (hf : Bel W.heap.size w0 w) (ht : Blk w t 48 [.bool false, .int .i64 many]) (ho : o = true ↔ getE ⟨up8 xs, i, E⟩ many = 0)
    (hcnt : (cnt : Int) + 1 ≤ 1000)
    (k : ∀ w', LeftI W b xs o w' → B1 (o, (cnt : Int) + 1, ()) w') :
    S9_k12 true (some ⟨b, 0, none⟩) o ⟨t, 0, none⟩ (8 * (xs.length : Int) - (i : Int)) A l c n (cnt : Int) w R B1 := by
  have hm := hr.1.2.2.1
  have hU := up8_length xs
  cases o with
  | true =>
    have e := ho.1 rfl
    rw [getS_eq e] at hr
    have hE : E = 0 := by
      unfold getE at e
      by_cases h : E ≠ 0
      · rw [if_pos h] at e; exact e
      · simpa using h
    have hmr : 0 ≤ many ∧ many ≤ 64 ∧ many ≤ 8 * (xs.length : Int) - (i : Int) := by
      unfold getE Rs.left at e
      simp only [hU] at e
      rw [if_neg (by simpa using hE)] at e
      split at e
      · cases e
      · split at e
        · cases e
        · omega
    have hr' : RdB W.heap.size w b xs (i + many.toNat) 0 := by subst hE; exact hr
    have fd : Fr none1 w w.drew := Fr.drew w
    have h1 := hr'.fr0 fd
    have g1 := hg.trans' (hf.trans' fd.bel0)
    have ht1 := ht.fr fd (fun h => h)
    refine cT rfl ?_
    generalize w.drew = w1 at h1 g1 ht1 ⊢
    have cc : ∀ {w'}, Blk w' t 48 [.bool false, .int .i64 many] → w'.cell? ((⟨t, 0, none⟩ : Addr).add 1) = some (.int .i64 many) := fun b => by rw [add_g]; exact (b.cell 1).trans rfl
    have ek : IntKind.i64.wrap (8 * (xs.length : Int) - (i : Int) - many) = 8 * (xs.length : Int) - ((i + many.toNat : Nat) : Int) := by rw [IntWalk.i64_in _ (by omega)]; omega
    have fin : ∀ w2, RdB W.heap.size w2 b xs (i + many.toNat) 0 → Fr none1 w1 w2 → S9_k13 true (some ⟨b, 0, none⟩) true A l c n (cnt : Int) false w2 R B1 := by
      intro w2 h2 f2
      refine cF rfl ?_
      rw [IntWalk.i64_in ((cnt : Int) + 1) (by omega)]
      exact k w2 ⟨_, _, h2, by simp, g1.trans' f2.bel0⟩
    refine ⟨?_, _, cc ht1, ?_⟩
    · refine (leftB h1).use ?_
      rintro v w2 ⟨rfl, h2, f2⟩
      refine ⟨_, rfl, _, cc (ht1.fr f2 (fun h => h)), ?_⟩
      rw [ek]
      exact cF (by simp) (cF rfl (fin w2 h2 f2))
    · refine (leftB h1).use ?_
      rintro v w2 ⟨rfl, h2, f2⟩
      refine ⟨_, rfl, ?_⟩
      rw [ek]
      exact cF (by simp) (cF rfl (fin w2 h2 f2))
  | false =>
    have e : getE ⟨up8 xs, i, E⟩ many ≠ 0 := fun h => by have := ho.2 h; cases this
    rw [getS_fault e] at hr
    have fd : Fr none1 w w.drew := Fr.drew w
    have h1 := hr.fr0 fd
    have g1 := hg.trans' (hf.trans' fd.bel0)
    have one : Calls Try.prog 26 ⟨[.pointer (some ⟨b, 0, none⟩)]⟩ w.drew fun e w_ => ∃ (t113 : Int), e = .returned (.int .i64 t113) ∧ S9_k13 true (some ⟨b, 0, none⟩) false A l c n (cnt : Int) (!decide (t113 = 8 * (xs.length : Int) - (i : Int))) w_ R B1 := by
      refine (leftB h1).use ?_
      rintro v w2 ⟨rfl, h2, f2⟩
      refine ⟨_, rfl, cF (by simp) ?_⟩
      rw [IntWalk.i64_in ((cnt : Int) + 1) (by omega)]
      exact k w2 ⟨_, _, h2, by simpa using e, g1.trans' f2.bel0⟩
    exact cF rfl ⟨cT rfl one, cT rfl one⟩
theorem left_count {R : Value → World → Prop} {B1 : Bool × Int × Unit → World → Prop} {o : Bool} {A : Option Addr} {l c : Nat} {n : Int} {cnt : Nat} (hr : RdB W.heap.size w b xs i E) (hg : Bel W.heap.size W w) (ho : o = true ↔ E = 0) (hcnt : (cnt : Int) + 1 ≤ 1000)
    (k : ∀ w' o', LeftI W b xs o' w' → B1 (o', (cnt : Int) + 1, ()) w') :
    Calls Try.prog 22 ⟨[.pointer (some ⟨b, 0, none⟩)]⟩ w fun e w__1 =>
        ∃ (t48 : Int), e = .returned (.int .u64 t48) ∧
        ∃ (I : (Int) × (Int) × Unit → World → Prop) (μ : (Int) × (Int) × Unit → World → Nat),
        I (0, (IntKind.u64.wrap (t48 + 1)), ()) w__1 ∧
        ∀ (J : Env) (s : (Int) × (Int) × Unit) (w' : World), I s w' →
          S9_L6 true (some ⟨b, 0, none⟩) o (8 * (xs.length : Int) - (i : Int)) s.1 s.2.1 A l c n (cnt : Int) w' R B1 (fun s' w'' => I s' w'' ∧ μ s' w'' < μ s w') := by
  have hm := hr.1.2.2.1
  have hU := up8_length xs
  have hi := hr.1.2.1
  refine (rcountB hr).use ?_
  rintro v w1 ⟨rfl, h1, f1⟩
  have hV : rcV ⟨up8 xs, i, E⟩ + 1 < 2 ^ 64 := by
    by_cases e : rcE ⟨up8 xs, i, E⟩ = 0
    · exact (rcV_lg e).2.1
    · rw [rcV_zero e]; decide
  have hS : rcE ⟨up8 xs, i, E⟩ = 0 ∧ (rcS ⟨up8 xs, i, E⟩).i = i + (2 * lg (rcV ⟨up8 xs, i, E⟩ + 1) + 1) ∧ (rcS ⟨up8 xs, i, E⟩).E = 0 ∧ E = 0 ∨ rcV ⟨up8 xs, i, E⟩ = 0 ∧ (rcS ⟨up8 xs, i, E⟩).i = i ∧ (rcS ⟨up8 xs, i, E⟩).E ≠ 0 := by
    by_cases e : rcE ⟨up8 xs, i, E⟩ = 0
    · obtain ⟨e0, _, e2, _⟩ := rcV_lg e
      left; rw [e2]; exact ⟨e, rfl, rfl, e0⟩
    · right; rw [rcS_fault e]; exact ⟨rcV_zero e, rfl, e⟩
  have hSi := h1.1.2.1
  generalize rcV ⟨up8 xs, i, E⟩ = V at hV hS ⊢
  generalize (rcS ⟨up8 xs, i, E⟩).i = i' at hS h1 hSi
  generalize (rcS ⟨up8 xs, i, E⟩).E = E' at hS h1
  refine ⟨_, rfl, ?_⟩
  have eu : IntKind.u64.wrap ((V : Int) + 1) = ((V + 1 : Nat) : Int) := by rw [IntWalk.u64_in _ (by omega)]; omega
  refine ⟨fun s w' => w' = w1 ∧ ∃ j : Nat, s.1 = (j : Int) ∧ s.2.1 = (((V + 1) / 2 ^ j : Nat) : Int) ∧ 1 ≤ (V + 1) / 2 ^ j, fun s _ => s.2.1.toNat, ⟨rfl, 0, rfl, by show IntKind.u64.wrap ((V : Int) + 1) = _; rw [eu]; simp, by simp⟩, ?_⟩
  rintro J ⟨k', m, ⟨⟩⟩ w4 ⟨rfl, j, hk, hm', h1'⟩
  dsimp only at hk hm' ⊢
  subst hk hm'
  have hj : j < 64 := by
    have h2 : 2 ^ j ≤ V + 1 := by
      have := (Nat.le_div_iff_mul_le (Nat.two_pow_pos j)).1 h1'
      omega
    have h3 : 2 ^ j < 2 ^ 64 := by omega
    exact (Nat.pow_lt_pow_iff_right (by decide)).1 h3
  refine cD (fun hlt => ?_) (fun hlt => ?_)
  · refine ⟨by decide, ?_⟩
    rw [half_nat (V + 1) j hV, IntWalk.i64_in ((j : Int) + 1) (by omega)]
    have e : (V + 1) / 2 ^ (j + 1) = (V + 1) / 2 ^ j / 2 := by rw [Nat.pow_succ, Nat.div_div_eq_div_mul]
    exact ⟨⟨rfl, j + 1, rfl, rfl, by rw [e]; omega⟩, by dsimp only; rw [e]; omega⟩
  · have ej : lg (V + 1) = j := lg_eq (by omega)
    refine (leftB h1).use ?_
    rintro v w5 ⟨rfl, h5, f5⟩
    refine ⟨_, rfl, ?_⟩
    have g5 := hg.trans' (f1.trans' f5.bel0)
    have fin : ∀ o', (o' = true ↔ E' = 0) → B1 (o', (IntKind.i64.wrap ((cnt : Int) + 1)), ()) w5 := fun o' ho' => by
      rw [IntWalk.i64_in ((cnt : Int) + 1) (by omega)]; exact k w5 o' ⟨_, _, h5, ho', g5⟩
    have k10 : (o = true → (i' = i → E' ≠ 0) ∧ (i' ≠ i → E' = 0)) → (o = false → E' ≠ 0) → S9_k10 true (some ⟨b, 0, none⟩) o (8 * (xs.length : Int) - (i : Int)) A l c n (cnt : Int) w5 R B1 := by
      intro ht hf
      refine cB (fun h => ?_) (fun h => ?_)
      · refine (leftB h5).use ?_
        rintro v w6 ⟨rfl, h6, f6⟩
        refine ⟨_, rfl, ?_⟩
        rw [IntWalk.i64_in ((cnt : Int) + 1) (by omega)]
        refine k w6 _ ⟨_, _, h6, ?_, g5.trans' f6.bel0⟩
        obtain ⟨t1, t2⟩ := ht h
        by_cases e : i' = i
        · have := t1 e
          subst e
          simpa using this
        · have := t2 e
          simp [this]; omega
      · exact fin false (by simpa using hf h)
    rw [IntWalk.i64_in (8 * (xs.length : Int) - (i : Int) - (8 * (xs.length : Int) - (i' : Int))) (by omega)]
    rcases hS with ⟨_, e1, e2, e3⟩ | ⟨e0, e1, e2⟩
    · rw [ej] at e1
      refine cT (by simp; omega) ?_
      rw [IntWalk.i64_in (2 * (j : Int)) (by omega), IntWalk.i64_in (2 * (j : Int) + 1) (by omega)]
      refine cF (by simp; omega) (k10 (fun _ => ⟨fun h => by omega, fun _ => e2⟩) fun h => ?_)
      have := ho.2 e3
      rw [h] at this; cases this
    · refine cF (by simp; omega) (cF rfl (k10 (fun _ => ⟨fun _ => e2, fun h => absurd e1 h⟩) fun _ => e2))
end
end Go.Proofs
