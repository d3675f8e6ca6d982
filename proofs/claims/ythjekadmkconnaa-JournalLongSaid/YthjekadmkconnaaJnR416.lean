/- What is proved here: journalLong: JournalLongSaid, for every input. No conditions. -/
import Derived.Test.YthjekadmkconnaaJnRO16
set_option linter.unusedVariables false
namespace Go.Proofs.Ythjekadmkconnaa
open Go Go.Eng Go.Proofs Go.ChangeShapes Go.WideShapes Go.ChangeAt Go.RowKit
theorem journalLong_lifted (os : Os) (started : os.Started) (H : Type) (enc : TypeId × Value → H) :
    ReturnsInHanded {} Try.checked os 6 .any (Rows.journalLongSpec.pre6 enc Try.prog Try.f6 [] false) (Rows.journalLongSpec.post enc Try.prog Try.f6 false true false false) := by
  refine row_true (C := Try.checked) (tb := 4) started own laidOut (by kernel_rfl) Try.func6 (ChangeSpec.witness6 (enc := enc) (C := Try.checked) false ⟨#[], #[.slice none 0 0], []⟩ 8 (by kernel_rfl) (by kernel_rfl) (by kernel_rfl) (by kernel_rfl)) rfl rfl Ubool (by kernel_rfl) ?_ ?_
  · intro ds h
    match ds, h with
    | [d0], _ => rfl
  · intro W base args ds p hval hA hfz hwt
    have hA' : DataW.TrodAll enc Try.prog W 0 (fun _ => true) true [22] args ds p := hA
    obtain ⟨v0, vs0, d0, ds0, p0, q0, rfl, rfl, rfl, h0, r0⟩ := trodAll_cons hA'
    obtain ⟨rfl, rfl, rfl⟩ := trodAll_nil r0
    have k0 := hval 0 22 v0 rfl rfl
    obtain ⟨A0, c0, xs0, rfl, g0⟩ := open_args k0 h0
    exact (journalLong_ok g0).use fun v w' ⟨h1, h2⟩ => ⟨by rw [h1], h2.below (fun k h => h.elim) (Nat.le_refl _)⟩
theorem journalLong_over : Rows.journalLongRow.holds Try.pinned (OpenSpec.ofChange Rows.journalLongSpec) :=
  OpenClaim.holds_of_wide 6 Try.f6 rfl rfl rfl rfl rfl rfl rfl ⟨rfl, rfl, rfl, rfl, rfl⟩ rfl rfl rfl rfl rfl (by kernel_rfl) Try.func6 (by kernel_rfl)
    (of_decide_eq_true (by kernel_rfl)) (by unfold Func.isWrapper; first | (rw [if_pos (by decide +kernel)]; kernel_rfl) | (rw [if_neg (by decide +kernel)]; exact ⟨rfl, rfl⟩))
    (fun os started H enc _ => journalLong_lifted os started H enc)
theorem journalLong : Rows.JournalLongSaid := journalLong_over
end Go.Proofs.Ythjekadmkconnaa
