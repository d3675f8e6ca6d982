/- What is proved here: bankerMays: BankerMaysSaid, for every input. No conditions. -/
import Derived.Test.YtlmbbcmaellkoaaBkRO08
import Derived.Test.YtlmbbcmaellkoaaBkI08
set_option linter.unusedVariables false
set_option maxRecDepth 100000
namespace Go.Proofs.Ytlmbbcmaellkoaa
open Go Go.Eng Go.Proofs Go.ChangeShapes Go.WideShapes Go.ChangeAt Go.RowKit
theorem bankerMays_lifted (os : Os) (started : os.Started) (H : Type) (enc : TypeId × Value → H) :
    ReturnsInHanded {} Try.checked os 8 .any (Rows.bankerMaysSpec.pre6 enc Try.prog Try.f8 [] false) (Rows.bankerMaysSpec.post enc Try.prog Try.f8 false true false false) := by
  refine row_true (C := Try.checked) (tb := 4) started own laidOut (by kernel_rfl) Try.func8 (ChangeSpec.witness6 (enc := enc) (C := Try.checked) false ⟨#[], #[.slice none 0 0, .int .i64 0, .int .i64 0], []⟩ 8 (by kernel_rfl) (by kernel_rfl) (by kernel_rfl) (by kernel_rfl)) rfl rfl Ubool (by kernel_rfl) ?_ ?_
  · intro ds h
    match ds, h with
    | [d0, d1, d2], _ => rfl
  · intro W base args ds p hval hA hfz hwt
    have hA' : DataW.TrodAll enc Try.prog W 0 (fun _ => true) true [22, 3, 3] args ds p := hA
    obtain ⟨v0, vs0, d0, ds0, p0, q0, rfl, rfl, rfl, h0, r0⟩ := trodAll_cons hA'
    obtain ⟨v1, vs1, d1, ds1, p1, q1, rfl, rfl, rfl, h1, r1⟩ := trodAll_cons r0
    obtain ⟨v2, vs2, d2, ds2, p2, q2, rfl, rfl, rfl, h2, r2⟩ := trodAll_cons r1
    obtain ⟨rfl, rfl, rfl⟩ := trodAll_nil r2
    have k0 := hval 0 22 v0 rfl rfl
    have k1 := hval 1 3 v1 rfl rfl
    have k2 := hval 2 3 v2 rfl rfl
    obtain ⟨A0, c0, al0, rfl, e0, f0, g0⟩ := open_claims k0 h0
    simp only [maxLen] at f0
    obtain ⟨a, rfl, a1, b1⟩ := open_num Try.underlying3 k1 h1
    simp [IntKind.min, IntKind.max, IntKind.bits, IntKind.signed] at a1 b1
    obtain ⟨b, rfl, a2, b2⟩ := open_num Try.underlying3 k2 h2
    simp [IntKind.min, IntKind.max, IntKind.bits, IntKind.signed] at a2 b2
    exact (bankerMays_ok g0 e0 (by omega) a b).use fun v w' ⟨h1, h2⟩ => ⟨by rw [h1], h2.below (fun k h => h.elim) (Nat.le_refl _)⟩
theorem bankerMays_over : Rows.bankerMaysRow.holds Try.pinned (OpenSpec.ofChange Rows.bankerMaysSpec) :=
  OpenClaim.holds_of_wide 8 Try.f8 rfl rfl rfl rfl rfl rfl rfl ⟨rfl, rfl, rfl, rfl, rfl⟩ rfl rfl rfl rfl rfl (by kernel_rfl) Try.func8 (by kernel_rfl)
    (of_decide_eq_true (by kernel_rfl)) (by unfold Func.isWrapper; first | (rw [if_pos (by decide +kernel)]; kernel_rfl) | (rw [if_neg (by decide +kernel)]; exact ⟨rfl, rfl⟩))
    (fun os started H enc _ => bankerMays_lifted os started H enc)
theorem bankerMays : Rows.BankerMaysSaid := bankerMays_over
end Go.Proofs.Ytlmbbcmaellkoaa
