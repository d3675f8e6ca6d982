/- What is proved here: lockKeeps: LockKeepsSaid, for every input. No conditions. -/
import Derived.Test.YtgcffkjnacmpjaaLockR0
set_option linter.unusedVariables false
namespace Go.Proofs.Ytgcffkjnacmpjaa
open Go Go.Eng Go.Proofs Go.ChangeShapes Go.WideShapes Go.ChangeAt Go.RowKit
theorem lockKeeps_lifted (os : Os) (started : os.Started) (H : Type) (enc : TypeId × Value → H) :
    ReturnsInHanded {} Try.checked os 3 .any (Rows.lockKeepsSpec.pre6 enc Try.prog Try.f3 [] false) (Rows.lockKeepsSpec.post enc Try.prog Try.f3 false true false false) := by
  refine row_true (C := Try.checked) (tb := 4) started own laidOut (by kernel_rfl) Try.func3 (ChangeSpec.witness6 (enc := enc) (C := Try.checked) false ⟨#[], #[.slice none 0 0, .slice none 0 0, .int .u8 0], []⟩ 8 (by kernel_rfl) (by kernel_rfl) (by kernel_rfl) (by kernel_rfl)) rfl rfl Ubool (by kernel_rfl) ?_ ?_
  · intro ds h
    match ds, h with
    | [d0, d1, d2], _ => rfl
  · intro W base args ds p hval hA hfz hwt
    have hA' : DataW.TrodAll enc Try.prog W 0 (fun _ => true) true [22, 22, 5] args ds p := hA
    obtain ⟨v0, vs0, d0, ds0, p0, q0, rfl, rfl, rfl, h0, r0⟩ := trodAll_cons hA'
    obtain ⟨v1, vs1, d1, ds1, p1, q1, rfl, rfl, rfl, h1, r1⟩ := trodAll_cons r0
    obtain ⟨v2, vs2, d2, ds2, p2, q2, rfl, rfl, rfl, h2, r2⟩ := trodAll_cons r1
    obtain ⟨rfl, rfl, rfl⟩ := trodAll_nil r2
    obtain ⟨A0, l0, c0, al0, rfl, e0, f0, g0⟩ := open_acts h0 (okWide_slice Try.underlying22 (hval 0 22 v0 rfl rfl))
    obtain ⟨A1, l1, c1, al1, rfl, e1, f1, g1⟩ := open_acts h1 (okWide_slice Try.underlying22 (hval 1 22 v1 rfl rfl))
    obtain ⟨m, rfl, _, _, hm⟩ := open_int U5 (hval 2 5 v2 rfl rfl) h2
    have hm' : 0 ≤ m ∧ m < 256 := by simp [Lit.wf, IntKind.min, IntKind.max, IntKind.bits, IntKind.signed] at hm; omega
    exact (lockKeeps_ok g0 e0 f0 g1 e1 f1 m hm').use fun v w' ⟨h1, h2⟩ => ⟨by rw [h1], h2.below (fun k h => h.elim) (Nat.le_refl _)⟩
theorem lockKeeps_over : Rows.lockKeepsRow.holds Try.pinned (OpenSpec.ofChange Rows.lockKeepsSpec) :=
  OpenClaim.holds_of_wide 3 Try.f3 rfl rfl rfl rfl rfl rfl rfl ⟨rfl, rfl, rfl, rfl, rfl⟩ rfl rfl rfl rfl rfl (by kernel_rfl) Try.func3 (by kernel_rfl)
    (of_decide_eq_true (by kernel_rfl)) (by unfold Func.isWrapper; first | (rw [if_pos (by decide +kernel)]; kernel_rfl) | (rw [if_neg (by decide +kernel)]; exact ⟨rfl, rfl⟩))
    (fun os started H enc _ => lockKeeps_lifted os started H enc)
theorem lockKeeps : Rows.LockKeepsSaid := lockKeeps_over
end Go.Proofs.Ytgcffkjnacmpjaa
