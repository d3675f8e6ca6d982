import Derived.Test.YthmipkbcapmmcaaNetC
import Derived.Test.YthmipkbcapmmcaaHp3
set_option linter.unusedVariables false
namespace Go.Proofs
open Go Go.Eng
theorem U28 : Try.prog.underlying 28 = some (.slice 5) := by kernel_rfl
theorem U5 : Try.prog.underlying 5 = some (.int .u8) := by kernel_rfl
theorem U9 : Try.prog.underlying 9 = some .string := by kernel_rfl
theorem shown_ok (w : World) : Ret Try.prog 8 [] w fun v w' => v = .bool true ∧ Fr none1 w w' := by
  apply S8_calls
  refine (new_ok w).use ?_
  rintro v w1 ⟨rfl, h1, f1⟩
  refine ⟨_, rfl, cF rfl ?_⟩
  obtain ⟨w2, r2, d2, f2⟩ := run_bmark U28 U5 w1 [97] 1 1
  refine ⟨_, _, _, w2, r2, ?_⟩
  refine (send_ok (h1.fr f2 fun _ _ _ h => h) (xs := [97]) rfl (by decide) d2).use ?_
  rintro v w3 (⟨h, _⟩ | ⟨_, rfl, h3, f3⟩)
  · simp at h
  refine ⟨_, rfl, cF rfl ?_⟩
  obtain ⟨w4, r4, d4, f4⟩ := run_bmark U28 U5 w3 [98] 1 1
  refine ⟨_, _, _, w4, r4, ?_⟩
  refine (send_ok (h3.fr f4 fun _ _ _ h => h) (xs := [98]) rfl (by decide) d4).use ?_
  rintro v w5 (⟨h, _⟩ | ⟨_, rfl, h5, f5⟩)
  · simp at h
  refine ⟨_, rfl, cF rfl ?_⟩
  have g5 : Bel w.heap.size w w5 := (f1.bel0.trans' f2.bel0).trans' ((f3.bel fun k hk => hk).trans' (f4.bel0.trans' (f5.bel fun k hk => by rcases hk with hk | hk; exact hk; have := f1.size; have := f2.size; omega)))
  have h5' : NetAt w5 (bw w.heap.size w5) w.heap.size ([] ++ [[97]] ++ [[98]]) := h5.mono fun k hk h => ⟨by
    have := f1.size; have := f2.size; have := f3.size; have := f4.size
    rcases h with (h | h) | h
    · exact h
    · omega
    · omega, hk⟩
  clear h5
  refine (take_ok h5' (by simp) 1).use ?_
  intro v w6 h6
  have e1 : look ([] ++ [[97]] ++ [[98]]) 1 = some [98] := rfl
  rw [e1] at h6
  obtain ⟨A6, c6, rfl, o6, n6, f6⟩ := h6
  refine ⟨_, _, _, _, rfl, ?_⟩
  refine (peek_ok n6 0).use ?_
  intro v w7 h7
  have e2 : look (List.eraseIdx ([] ++ [[97]] ++ [[98]]) (Int.toNat 1)) 0 = some [97] := rfl
  rw [e2] at h7
  obtain ⟨⟨A7, c7, rfl, o7⟩, f7⟩ := h7
  refine ⟨_, _, _, _, rfl, ?_⟩
  refine (take_ok (n6.fr f7 fun _ _ _ h => h) (by decide) 0).use ?_
  intro v w8 h8
  rw [e2] at h8
  obtain ⟨A8, c8, rfl, o8, n8, f8⟩ := h8
  refine ⟨_, _, _, _, rfl, ?_⟩
  have s6 := f6.size
  have o6' : Rd w8 (from1 w5.heap.size) A6 (bvs [98]) := (o6.rd.fr f7 fun _ _ _ h => h).fr f8 fun k hk h1 h2 => by simp only [from1, bw] at h1 h2; omega
  have o7' : Rd w8 (from1 w6.heap.size) A7 (bvs [97]) := o7.rd.fr f8 fun k hk h1 h2 => by simp only [from1, bw] at h1 h2; omega
  refine ⟨_, _, run_toString U28 U5 U9 rfl o6', cT (by decide) ?_⟩
  refine ⟨_, _, run_toString U28 U5 U9 rfl o7', cT (by decide) ?_⟩
  refine ⟨_, _, run_toString U28 U5 U9 rfl o8.rd, cT (by decide) ?_⟩
  refine cT rfl (cT rfl (cT rfl ?_))
  refine (len_ok n8).use ?_
  rintro v w9 ⟨rfl, rfl⟩
  refine ⟨_, rfl, rfl, ?_⟩
  exact (g5.trans' ((f6.bel fun k hk => hk.1).trans' (f7.bel0.trans' (f8.bel fun k hk => hk.1)))).top
end Go.Proofs
