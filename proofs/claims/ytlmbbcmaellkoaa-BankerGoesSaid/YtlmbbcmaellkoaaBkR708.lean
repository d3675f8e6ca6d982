/- What is proved here: bankerGoes: BankerGoesSaid, for every input. No conditions. -/
import Derived.Test.YtlmbbcmaellkoaaBkRO08
import Derived.Test.YtlmbbcmaellkoaaBkN08
set_option linter.unusedVariables false
set_option maxRecDepth 100000
namespace Go.Proofs.Ytlmbbcmaellkoaa
open Go Go.Eng Go.Proofs Go.ChangeShapes Go.WideShapes Go.ChangeAt Go.RowKit
theorem bankerGoes_lifted (os : Os) (started : os.Started) (H : Type) (enc : TypeId × Value → H) :
    ReturnsInHanded {} Try.checked os 9 .any (Rows.bankerGoesSpec.pre6 enc Try.prog Try.f9 [] false) (Rows.bankerGoesSpec.post enc Try.prog Try.f9 false true false false) := by
  refine row_true (C := Try.checked) (tb := 4) started own laidOut (by kernel_rfl) Try.func9 (ChangeSpec.witness6 (enc := enc) (C := Try.checked) false ⟨#[], #[.slice none 0 0], []⟩ 8 (by kernel_rfl) (by kernel_rfl) (by kernel_rfl) (by kernel_rfl)) rfl rfl Ubool (by kernel_rfl) ?_ ?_
  · intro ds h
    match ds, h with
    | [d0], _ => rfl
  · intro W base args ds p hval hA hfz hwt
    have hA' : DataW.TrodAll enc Try.prog W 0 (fun _ => true) true [22] args ds p := hA
    obtain ⟨v0, vs0, d0, ds0, p0, q0, rfl, rfl, rfl, h0, r0⟩ := trodAll_cons hA'
    obtain ⟨rfl, rfl, rfl⟩ := trodAll_nil r0
    have k0 := hval 0 22 v0 rfl rfl
    obtain ⟨A0, c0, al0, rfl, e0, f0, g0⟩ := open_claims k0 h0
    simp only [maxLen] at f0
    exact (bankerGoes_ok g0 e0 (by omega)).use fun v w' ⟨h1, h2⟩ => ⟨by rw [h1], h2.below (fun k h => h.elim) (Nat.le_refl _)⟩
theorem bankerGoes_over : Rows.bankerGoesRow.holds Try.pinned (OpenSpec.ofChange Rows.bankerGoesSpec) :=
  OpenClaim.holds_of_wide 9 Try.f9 rfl rfl rfl rfl rfl rfl rfl ⟨rfl, rfl, rfl, rfl, rfl⟩ rfl rfl rfl rfl rfl (by kernel_rfl) Try.func9 (by kernel_rfl)
    (of_decide_eq_true (by kernel_rfl)) (by unfold Func.isWrapper; first | (rw [if_pos (by decide +kernel)]; kernel_rfl) | (rw [if_neg (by decide +kernel)]; exact ⟨rfl, rfl⟩))
    (fun os started H enc _ => bankerGoes_lifted os started H enc)
theorem bankerGoes : Rows.BankerGoesSaid := bankerGoes_over
end Go.Proofs.Ytlmbbcmaellkoaa
