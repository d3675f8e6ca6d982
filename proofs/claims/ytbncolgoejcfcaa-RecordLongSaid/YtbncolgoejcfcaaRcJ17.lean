/- The laws of records. -/
import Derived.Test.YtbncolgoejcfcaaRcI17
set_option linter.unusedVariables false
namespace Go.Proofs
open Go Go.Eng
theorem shown_ok (w : World) : Ret Try.prog 11 [] w fun v w' => v = .bool true ∧ Fr none1 w w' := by
  apply S11_calls
  refine (lay_ok ⟨5, 0, 5, 0, 0, 0⟩ w).use ?_
  rintro v w1 ⟨A1, c1, rfl, o1, f1⟩
  have e1 : layV ⟨5, 0, 5, 0, 0, 0⟩ = ([180], 0) := by decide +kernel
  rw [e1] at o1 ⊢
  refine ⟨_, _, _, _, rfl, ?_⟩
  refine (alay_ok ⟨1, 7, 0⟩ w1).use ?_
  rintro v w2 ⟨A2, c2, rfl, o2, f2⟩
  have e2 : alayV ⟨1, 7, 0⟩ = ([65, 192], 0) := by decide +kernel
  rw [e2] at o2 ⊢
  have s1 : (⟨#[180]⟩ : ByteArray) = str [180] := rfl
  have s2 : (⟨#[65, 192]⟩ : ByteArray) = str [65, 192] := rfl
  refine ⟨_, _, _, _, rfl, ?_⟩
  unfold cond
  simp only [decide_true, if_true]
  refine ⟨_, w2, run_toString Uby Uu8 Ustr rfl (o1.fr f2 fun _ _ _ h => h).rd, ?_⟩
  rw [s1]
  simp only [decide_true, if_true]
  refine ⟨_, w2, run_toString Uby Uu8 Ustr rfl o2.rd, ?_, f1.trans' f2⟩
  rw [s2, decide_eq_true rfl]
theorem recordLays_ok (x : Rc) (w : World) : Ret Try.prog 3 [rval x] w fun v w' => v = .bool true ∧ Fr none1 w w' := by
  apply S3_calls
  have b0 : RcB (w.alloc (.cells ⟨rcell x⟩ 23)) w.heap.size x := Blk.new w 23 (rcell x)
  have f0 : Fr none1 w (w.alloc (.cells ⟨rcell x⟩ 23)) := Fr.alloc _ _
  unfold S3
  generalize hw1 : w.alloc (.cells ⟨[.int .u8 x.k, .int .i64 x.i, .int .i64 x.r, .int .i64 x.p, .int .i64 x.c, .int .i64 x.q]⟩ 23) = w1
  have hw1' : w.alloc (.cells ⟨rcell x⟩ 23) = w1 := hw1
  rw [hw1'] at b0 f0
  generalize hrr : w.heap.size = r at b0 ⊢
  refine ⟨_, b0.c0, _, b0.c1, _, b0.c2, _, b0.c3, _, b0.c4, _, b0.c5, ?_⟩
  refine (lay_ok x w1).use ?_
  rintro v w2 ⟨A1, c1, rfl, o1, f1⟩
  have b2 := Blk.fr b0 f1 fun h => h
  refine ⟨_, _, _, _, rfl, _, RcB.c0 b2, _, RcB.c1 b2, _, RcB.c2 b2, _, RcB.c3 b2, _, RcB.c4 b2, _, RcB.c5 b2, ?_⟩
  refine (flay_ok x w2).use ?_
  rintro v w3 ⟨A2, c2, rfl, o2, f2⟩
  have b3 := Blk.fr b2 f2 fun h => h
  refine ⟨_, _, _, _, rfl, ?_⟩
  have fd : Fr none1 w3 w3.drew := Fr.drew w3
  refine (shown_ok w3.drew).use ?_
  rintro v w4 ⟨rfl, f4⟩
  have b4 := Blk.fr (Blk.fr b3 fd fun h => h) f4 fun h => h
  have f34 := fd.trans' f4
  have o14 := (o1.fr f2 fun _ _ _ h => h).fr f34 fun _ _ _ h => h
  have o24 := o2.fr f34 fun _ _ _ h => h
  have f04 := f0.trans' (f1.trans' (f2.trans' f34))
  have tail : ∀ w5, Fr none1 w4 w5 → ((∃ (t27 : ByteArray) (w__5 : World), (convert 24 9 (.slice A1 (layV x).1.length c1)).run Try.prog w5 = .ok (.string t27) w__5 ∧ ∃ (t29 : ByteArray) (w__6 : World), (convert 24 9 (.slice A2 (layV x).1.length c2)).run Try.prog w__5 = .ok (.string t29) w__6 ∧ cond (decide ((t27 : ByteArray) = t29)) (Value.bool (decide ((layV x).2 = (layV x).2)) = .bool true ∧ Fr none1 w w__6) (Value.bool false = .bool true ∧ Fr none1 w w__6)) ∧ (∃ (t29 : ByteArray) (w__5 : World), (convert 24 9 (.slice A2 (layV x).1.length c2)).run Try.prog w5 = .ok (.string t29) w__5 ∧ ∃ (t27 : ByteArray) (w__6 : World), (convert 24 9 (.slice A1 (layV x).1.length c1)).run Try.prog w__5 = .ok (.string t27) w__6 ∧ cond (decide ((t27 : ByteArray) = t29)) (Value.bool (decide ((layV x).2 = (layV x).2)) = .bool true ∧ Fr none1 w w__6) (Value.bool false = .bool true ∧ Fr none1 w w__6))) := by
    intro w5 f5
    have r1 := run_toString Uby Uu8 Ustr (c := c1) rfl (o14.fr f5 fun _ _ _ h => h).rd
    have r2 := run_toString Uby Uu8 Ustr (c := c2) rfl (o24.fr f5 fun _ _ _ h => h).rd
    have fin : Value.bool (decide ((layV x).2 = (layV x).2)) = .bool true ∧ Fr none1 w w5 := ⟨by rw [decide_eq_true rfl], f04.trans' f5⟩
    exact ⟨⟨_, w5, r1, _, w5, r2, cT (decide_eq_true rfl) fin⟩, ⟨_, w5, r2, _, w5, r1, cT (decide_eq_true rfl) fin⟩⟩
  have same : ((decide (right x)) == (decide (right x))) = true := by simp
  refine ⟨_, rfl, cT rfl ⟨_, RcB.c0 b4, _, RcB.c1 b4, _, RcB.c2 b4, _, RcB.c3 b4, _, RcB.c4 b4, _, RcB.c5 b4, ?_, ?_⟩⟩
  · refine (right_ok x w4).use ?_
    rintro v w5 ⟨rfl, f5⟩
    have b5 := Blk.fr b4 f5 fun h => h
    refine ⟨_, rfl, _, RcB.c0 b5, _, RcB.c1 b5, _, RcB.c2 b5, _, RcB.c3 b5, _, RcB.c4 b5, _, RcB.c5 b5, ?_⟩
    refine (fright_ok x w5).use ?_
    rintro v w6 ⟨rfl, f6⟩
    exact ⟨_, rfl, cT same (tail w6 (f5.trans' f6))⟩
  · refine ⟨_, RcB.c0 b4, _, RcB.c1 b4, _, RcB.c2 b4, _, RcB.c3 b4, _, RcB.c4 b4, _, RcB.c5 b4, ?_⟩
    refine (right_ok x w4).use ?_
    rintro v w5 ⟨rfl, f5⟩
    refine ⟨_, rfl, ?_⟩
    refine (fright_ok x w5).use ?_
    rintro v w6 ⟨rfl, f6⟩
    exact ⟨_, rfl, cT same (tail w6 (f5.trans' f6))⟩
/-! ### How long -/
theorem cb_len2 (n : Nat) : (cb n).length = 2 * lg (n + 1) + 1 := by rw [cb_length]
theorem rb_len {x : Rc} (h : right x) : (rb x).length = if x.k = 1 then 20 else if x.k = 2 then 4 + 2 * lg (x.i.toNat + 1) else if x.k = 3 then 4 + 2 * lg (x.i.toNat + 1) + 3 else 6 := by
  obtain ⟨⟨k1, k2⟩, _⟩ := h
  unfold rb hasI hasR hasM
  simp only [List.length_append, nb_length]
  by_cases e1 : x.k = 1
  · simp [e1, nb_length]
  by_cases e2 : x.k = 2
  · simp [e2, nb_length, cb_len2]; omega
  by_cases e3 : x.k = 3
  · simp [e3, nb_length, cb_len2]; omega
  · rw [if_neg e1, if_neg e2, if_neg e3, if_neg (by simp; omega), if_pos (by simp; omega), if_neg (by simp; omega)]
    simp [nb_length]
theorem lg_half {m : Nat} (h : 1 < m) : lg m = lg (m / 2) + 1 := by
  unfold lg
  rw [Nat.log2_def, if_pos (by omega)]
theorem lg_one : lg 1 = 0 := by decide
theorem long_k6 {b : Bs} {x : Rc} (hr : right x) {A : Option Addr} {c : Nat} {w w0 : World} (f : Fr none1 w0 w) {n : Nat} (hn : (rb x).length = n) : S4_k6 true A (pk (rb x)).length c 0 (n : Int) w fun v w' => v = .bool true ∧ Fr none1 w0 w' := by
  have hle := rb_le hr
  refine cT rfl (cT rfl ⟨by decide, ?_, f⟩)
  have e : Int.tdiv ((n : Int) + 7) 8 = (((n + 7) / 8 : Nat) : Int) := by rw [Int.tdiv_eq_ediv_of_nonneg (by omega)]; omega
  rw [pk_length, hn, IntWalk.i64_in ((n : Int) + 7) (by omega), e, IntWalk.i64_in _ (by omega), decide_eq_true rfl]
theorem recordLong_ok (x : Rc) (w : World) : Ret Try.prog 4 [rval x] w fun v w' => v = .bool true ∧ Fr none1 w w' := by
  apply S4_calls
  have b0 : RcB (w.alloc (.cells ⟨rcell x⟩ 23)) w.heap.size x := Blk.new w 23 (rcell x)
  have f0 : Fr none1 w (w.alloc (.cells ⟨rcell x⟩ 23)) := Fr.alloc _ _
  unfold S4
  generalize hw1 : w.alloc (.cells ⟨[.int .u8 x.k, .int .i64 x.i, .int .i64 x.r, .int .i64 x.p, .int .i64 x.c, .int .i64 x.q]⟩ 23) = w1
  have hw1' : w.alloc (.cells ⟨rcell x⟩ 23) = w1 := hw1
  rw [hw1'] at b0 f0
  generalize hrr : w.heap.size = r at b0 ⊢
  refine (shown_ok w1).use ?_
  rintro v w2 ⟨rfl, f2⟩
  have b2 := Blk.fr b0 f2 fun h => h
  refine ⟨_, rfl, _, RcB.c0 b2, _, RcB.c1 b2, _, RcB.c2 b2, _, RcB.c3 b2, _, RcB.c4 b2, _, RcB.c5 b2, ?_⟩
  refine (right_ok x w2).use ?_
  rintro v w3 ⟨rfl, f3⟩
  have b3 := Blk.fr b2 f3 fun h => h
  have f03 := f0.trans' (f2.trans' f3)
  refine ⟨_, rfl, ?_⟩
  by_cases hr : right x
  · rw [decide_eq_true hr]
    refine cF rfl ⟨_, RcB.c0 b3, _, RcB.c1 b3, _, RcB.c2 b3, _, RcB.c3 b3, _, RcB.c4 b3, _, RcB.c5 b3, ?_⟩
    refine (lay_ok x w3).use ?_
    rintro v w4 ⟨A1, c1, rfl, o1, f4⟩
    have el : layV x = (pk (rb x), 0) := if_pos hr
    rw [el] at o1 ⊢
    have b4 := Blk.fr b3 f4 fun h => h
    have f04 := f03.trans' f4
    have hlen := rb_len hr
    obtain ⟨⟨k1, k2⟩, _, _, _, ⟨i1, i2⟩, _⟩ := (right_iff x).1 hr
    have k6 : ∀ {n : Nat}, (rb x).length = n → S4_k6 true A1 (pk (rb x)).length c1 0 (n : Int) w4 fun v w' => v = .bool true ∧ Fr none1 w w' := fun hn => long_k6 (b := []) hr f04 hn
    have loop : (x.k = 2 ∨ x.k = 3) → ∀ n, S4_k2 ⟨r, 0, none⟩ true A1 (pk (rb x)).length c1 0 n true w4 fun v w' => v = .bool true ∧ Fr none1 w w' := by
      intro hk n
      refine cT rfl ⟨_, RcB.c1 b4, fun s w' => w' = w4 ∧ ∃ m : Nat, s.2.1 = (m : Int) ∧ 1 ≤ m ∧ m ≤ 1073741825 ∧ lg m ≤ lg (x.i.toNat + 1) ∧ s.1 = ((4 + 2 * (lg (x.i.toNat + 1) - lg m) : Nat) : Int), fun s _ => s.2.1.toNat, ⟨rfl, x.i.toNat + 1, ?_, by omega, by omega, Nat.le_refl _, ?_⟩, ?_⟩
      · show IntKind.i64.wrap (x.i + 1) = _
        rw [IntWalk.i64_in _ (by omega)]; omega
      · rw [Nat.sub_self]; rfl
      · rintro J ⟨bits, m', u⟩ w5 ⟨rfl, m, hm, m1, m2, hl, hb⟩
        dsimp only at hm hb
        subst hm hb
        have hlg : lg (x.i.toNat + 1) < 31 := lg_lt (by omega) (by omega)
        have e2 : Int.tdiv (m : Int) 2 = ((m / 2 : Nat) : Int) := by rw [Int.tdiv_eq_ediv_of_nonneg (by omega)]; omega
        have key : (1 < m) → S4_k4 ⟨r, 0, none⟩ true A1 (pk (rb x)).length c1 0 ((4 + 2 * (lg (x.i.toNat + 1) - lg m) : Nat) : Int) (m : Int) w5 (fun v w' => v = .bool true ∧ Fr none1 w w') (fun s w'' => (w'' = w5 ∧ ∃ m : Nat, s.2.1 = (m : Int) ∧ 1 ≤ m ∧ m ≤ 1073741825 ∧ lg m ≤ lg (x.i.toNat + 1) ∧ s.1 = ((4 + 2 * (lg (x.i.toNat + 1) - lg m) : Nat) : Int)) ∧ s.2.1.toNat < Int.toNat (m : Int)) := by
          intro h
          have := lg_half h
          refine ⟨by decide, ⟨rfl, m / 2, ?_, by omega, by omega, by omega, ?_⟩, ?_⟩
          · show IntKind.i64.wrap (Int.tdiv (m : Int) 2) = _
            rw [e2, IntWalk.i64_in _ (by omega)]
          · show IntKind.i64.wrap _ = _
            rw [IntWalk.i64_in _ (by omega)]; omega
          · show Int.toNat (IntKind.i64.wrap (Int.tdiv (m : Int) 2)) < Int.toNat (m : Int)
            rw [e2, IntWalk.i64_in _ (by omega)]; omega
        refine cD (fun h => key (by have h' : (1 : Int) < (m : Int) := h; omega)) (fun h => ?_)
        have h' : ¬ (1 : Int) < (m : Int) := h
        have e1 : m = 1 := by omega
        subst e1
        rw [lg_one, Nat.sub_zero] at *
        refine ⟨_, RcB.c0 b4, cD (fun h3 => ?_) (fun h3 => ?_)⟩
        · rw [IntWalk.i64_in _ (by omega)]
          have := k6 (n := 4 + 2 * lg (x.i.toNat + 1) + 3) (by rw [hlen, if_neg (by omega), if_neg (by omega), if_pos h3])
          have e : (((4 + 2 * lg (x.i.toNat + 1) : Nat) : Int) + 3) = ((4 + 2 * lg (x.i.toNat + 1) + 3 : Nat) : Int) := by omega
          rw [e]
          exact this
        · exact k6 (n := 4 + 2 * lg (x.i.toNat + 1)) (by rw [hlen, if_neg (by omega), if_pos (by omega)])
    have k1 : ∀ n : Nat, (¬ (x.k = 2 ∨ x.k = 3) → (rb x).length = n) → S4_k1 ⟨r, 0, none⟩ true A1 (pk (rb x)).length c1 0 (n : Int) w4 fun v w' => v = .bool true ∧ Fr none1 w w' := by
      intro n hn
      refine ⟨_, RcB.c0 b4, cD (fun h => loop (.inl h) _) (fun h => ⟨_, RcB.c0 b4, ?_⟩)⟩
      by_cases h3 : x.k = 3
      · rw [decide_eq_true h3]; exact loop (.inr h3) _
      · rw [decide_eq_false h3]; exact cF rfl (k6 (hn (by omega)))
    refine ⟨_, _, _, _, rfl, _, RcB.c0 b4, cD (fun h => ?_) (fun h => ?_)⟩
    · exact k1 20 fun _ => by rw [hlen, if_pos h]
    · exact k1 6 fun h2 => by rw [hlen, if_neg h, if_neg (by omega), if_neg (by omega)]
  · rw [decide_eq_false hr]
    exact cT rfl ⟨rfl, f03⟩
end Go.Proofs
