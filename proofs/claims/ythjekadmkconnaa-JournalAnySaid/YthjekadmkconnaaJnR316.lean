/- What is proved here: journalAny: JournalAnySaid, for every input. No conditions. -/
import Derived.Test.YthjekadmkconnaaJnRO16
set_option linter.unusedVariables false
namespace Go.Proofs.Ythjekadmkconnaa
open Go Go.Eng Go.Proofs Go.ChangeShapes Go.WideShapes Go.ChangeAt Go.RowKit
theorem journalAny_lifted (os : Os) (started : os.Started) (H : Type) (enc : TypeId × Value → H) :
    ReturnsInHanded {} Try.checked os 4 .any (Rows.journalAnySpec.pre6 enc Try.prog Try.f4 [] false) (Rows.journalAnySpec.post enc Try.prog Try.f4 false true false false) := by
  refine row_true (C := Try.checked) (tb := 4) started own laidOut (by kernel_rfl) Try.func4 (ChangeSpec.witness6 (enc := enc) (C := Try.checked) false ⟨#[], #[.slice none 0 0, .slice none 0 0], []⟩ 8 (by kernel_rfl) (by kernel_rfl) (by kernel_rfl) (by kernel_rfl)) rfl rfl Ubool (by kernel_rfl) ?_ ?_
  · intro ds h
    match ds, h with
    | [d0, d1], _ => rfl
  · intro W base args ds p hval hA hfz hwt
    have hA' : DataW.TrodAll enc Try.prog W 0 (fun _ => true) true [30, 22] args ds p := hA
    obtain ⟨v0, vs0, d0, ds0, p0, q0, rfl, rfl, rfl, h0, r0⟩ := trodAll_cons hA'
    obtain ⟨v1, vs1, d1, ds1, p1, q1, rfl, rfl, rfl, h1, r1⟩ := trodAll_cons r0
    obtain ⟨rfl, rfl, rfl⟩ := trodAll_nil r1
    have k0 := hval 0 30 v0 rfl rfl
    have k1 := hval 1 22 v1 rfl rfl
    obtain ⟨A0, c0, xs0, rfl, e0, f0, g0⟩ := open_bs Try.underlying30 Try.underlying5 (by kernel_rfl) k0 h0
    obtain ⟨A1, c1, xs1, rfl, g1⟩ := open_args k1 h1
    exact (journalAny_ok g0 g1).use fun v w' ⟨h1, h2⟩ => ⟨by rw [h1], h2.below (fun k h => h.elim) (Nat.le_refl _)⟩
theorem journalAny_over : Rows.journalAnyRow.holds Try.pinned (OpenSpec.ofChange Rows.journalAnySpec) :=
  OpenClaim.holds_of_wide 4 Try.f4 rfl rfl rfl rfl rfl rfl rfl ⟨rfl, rfl, rfl, rfl, rfl⟩ rfl rfl rfl rfl rfl (by kernel_rfl) Try.func4 (by kernel_rfl)
    (of_decide_eq_true (by kernel_rfl)) (by unfold Func.isWrapper; first | (rw [if_pos (by decide +kernel)]; kernel_rfl) | (rw [if_neg (by decide +kernel)]; exact ⟨rfl, rfl⟩))
    (fun os started H enc _ => journalAny_lifted os started H enc)
theorem journalAny : Rows.JournalAnySaid := journalAny_over
end Go.Proofs.Ythjekadmkconnaa
