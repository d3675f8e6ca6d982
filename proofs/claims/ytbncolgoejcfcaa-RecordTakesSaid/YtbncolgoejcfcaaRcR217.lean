/- What is proved here: recordTakes: RecordTakesSaid, for every input. No conditions. -/
import Derived.Test.YtbncolgoejcfcaaRcRO17
set_option linter.unusedVariables false
namespace Go.Proofs.Ytbncolgoejcfcaa
open Go Go.Eng Go.Proofs Go.ChangeShapes Go.WideShapes Go.ChangeAt Go.RowKit
theorem recordTakes_lifted (os : Os) (started : os.Started) (H : Type) (enc : TypeId × Value → H) :
    ReturnsInHanded {} Try.checked os 8 .any (Rows.recordTakesSpec.pre6 enc Try.prog Try.f8 [] false) (Rows.recordTakesSpec.post enc Try.prog Try.f8 false true false false) := by
  refine row_true (C := Try.checked) (tb := 4) started own laidOut (by kernel_rfl) Try.func8 (ChangeSpec.witness6 (enc := enc) (C := Try.checked) false ⟨#[], #[.slice none 0 0], []⟩ 8 (by kernel_rfl) (by kernel_rfl) (by kernel_rfl) (by kernel_rfl)) rfl rfl Ubool (by kernel_rfl) ?_ ?_
  · intro ds h
    match ds, h with
    | [d0], _ => rfl
  · intro W base args ds p hval hA hfz hwt
    have hA' : DataW.TrodAll enc Try.prog W 0 (fun _ => true) true [24] args ds p := hA
    obtain ⟨v0, vs0, d0, ds0, p0, q0, rfl, rfl, rfl, h0, r0⟩ := trodAll_cons hA'
    obtain ⟨rfl, rfl, rfl⟩ := trodAll_nil r0
    have k0 := hval 0 24 v0 rfl rfl
    obtain ⟨A0, c0, xs0, rfl, e0, f0, g0⟩ := open_bs Try.underlying24 Try.underlying5 (by kernel_rfl) k0 h0
    exact (recordTakes_ok g0).use fun v w' ⟨h1, h2⟩ => ⟨by rw [h1], h2.below (fun k h => h.elim) (Nat.le_refl _)⟩
theorem recordTakes_over : Rows.recordTakesRow.holds Try.pinned (OpenSpec.ofChange Rows.recordTakesSpec) :=
  OpenClaim.holds_of_wide 8 Try.f8 rfl rfl rfl rfl rfl rfl rfl ⟨rfl, rfl, rfl, rfl, rfl⟩ rfl rfl rfl rfl rfl (by kernel_rfl) Try.func8 (by kernel_rfl)
    (of_decide_eq_true (by kernel_rfl)) (by unfold Func.isWrapper; first | (rw [if_pos (by decide +kernel)]; kernel_rfl) | (rw [if_neg (by decide +kernel)]; exact ⟨rfl, rfl⟩))
    (fun os started H enc _ => recordTakes_lifted os started H enc)
theorem recordTakes : Rows.RecordTakesSaid := recordTakes_over
end Go.Proofs.Ytbncolgoejcfcaa
