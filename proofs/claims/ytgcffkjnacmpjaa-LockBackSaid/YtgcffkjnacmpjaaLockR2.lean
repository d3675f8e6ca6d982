/- What is proved here: lockBack: LockBackSaid, for every input. No conditions. -/
import Derived.Test.YtgcffkjnacmpjaaLockR0
import Derived.Test.YtgcffkjnacmpjaaLockE
set_option linter.unusedVariables false
namespace Go.Proofs.Ytgcffkjnacmpjaa
open Go Go.Eng Go.Proofs Go.ChangeShapes Go.WideShapes Go.ChangeAt Go.RowKit
theorem lockBack_lifted (os : Os) (started : os.Started) (H : Type) (enc : TypeId × Value → H) :
    ReturnsInHanded {} Try.checked os 6 .any (Rows.lockBackSpec.pre6 enc Try.prog Try.f6 [] false) (Rows.lockBackSpec.post enc Try.prog Try.f6 false true false false) := by
  refine row_true (C := Try.checked) (tb := 4) started own laidOut (by kernel_rfl) Try.func6 (ChangeSpec.witness6 (enc := enc) (C := Try.checked) false ⟨#[], #[.slice none 0 0, .int .i64 0, .int .i64 0], []⟩ 8 (by kernel_rfl) (by kernel_rfl) (by kernel_rfl) (by kernel_rfl)) rfl rfl Ubool (by kernel_rfl) ?_ ?_
  · intro ds h
    match ds, h with
    | [d0, d1, d2], _ => rfl
  · intro W base args ds p hval hA hfz hwt
    have hA' : DataW.TrodAll enc Try.prog W 0 (fun _ => true) true [22, 3, 3] args ds p := hA
    obtain ⟨v0, vs0, d0, ds0, p0, q0, rfl, rfl, rfl, h0, r0⟩ := trodAll_cons hA'
    obtain ⟨v1, vs1, d1, ds1, p1, q1, rfl, rfl, rfl, h1, r1⟩ := trodAll_cons r0
    obtain ⟨v2, vs2, d2, ds2, p2, q2, rfl, rfl, rfl, h2, r2⟩ := trodAll_cons r1
    obtain ⟨rfl, rfl, rfl⟩ := trodAll_nil r2
    obtain ⟨A0, l0, c0, al0, rfl, e0, f0, g0⟩ := open_acts h0 (okWide_slice Try.underlying22 (hval 0 22 v0 rfl rfl))
    obtain ⟨r, rfl, _, _, hr⟩ := open_int U3 (hval 1 3 v1 rfl rfl) h1
    obtain ⟨z, rfl, _, _, hz⟩ := open_int U3 (hval 2 3 v2 rfl rfl) h2
    have hr' : inI r := by simp [Lit.wf] at hr; exact hr
    exact (lockBack_ok g0 e0 f0 r z hr').use fun v w' ⟨h1, h2⟩ => ⟨by rw [h1], h2.below (fun k h => h.elim) (Nat.le_refl _)⟩
theorem lockBack_over : Rows.lockBackRow.holds Try.pinned (OpenSpec.ofChange Rows.lockBackSpec) :=
  OpenClaim.holds_of_wide 6 Try.f6 rfl rfl rfl rfl rfl rfl rfl ⟨rfl, rfl, rfl, rfl, rfl⟩ rfl rfl rfl rfl rfl (by kernel_rfl) Try.func6 (by kernel_rfl)
    (of_decide_eq_true (by kernel_rfl)) (by unfold Func.isWrapper; first | (rw [if_pos (by decide +kernel)]; kernel_rfl) | (rw [if_neg (by decide +kernel)]; exact ⟨rfl, rfl⟩))
    (fun os started H enc _ => lockBack_lifted os started H enc)
theorem lockBack : Rows.LockBackSaid := lockBack_over
end Go.Proofs.Ytgcffkjnacmpjaa
