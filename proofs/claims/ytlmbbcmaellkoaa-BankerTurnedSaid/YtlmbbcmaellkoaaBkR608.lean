/- What is proved here: bankerTurned: BankerTurnedSaid, for every input. No conditions. -/
import Derived.Test.YtlmbbcmaellkoaaBkRO08
import Derived.Test.YtlmbbcmaellkoaaBkK08
set_option linter.unusedVariables false
set_option maxRecDepth 100000
namespace Go.Proofs.Ytlmbbcmaellkoaa
open Go Go.Eng Go.Proofs Go.ChangeShapes Go.WideShapes Go.ChangeAt Go.RowKit
theorem bankerTurned_lifted (os : Os) (started : os.Started) (H : Type) (enc : TypeId × Value → H) :
    ReturnsInHanded {} Try.checked os 7 .any (Rows.bankerTurnedSpec.pre6 enc Try.prog Try.f7 [] false) (Rows.bankerTurnedSpec.post enc Try.prog Try.f7 false true false false) := by
  refine row_true (C := Try.checked) (tb := 4) started own laidOut (by kernel_rfl) Try.func7 (ChangeSpec.witness6 (enc := enc) (C := Try.checked) false ⟨#[], #[.slice none 0 0, .int .u8 0], []⟩ 8 (by kernel_rfl) (by kernel_rfl) (by kernel_rfl) (by kernel_rfl)) rfl rfl Ubool (by kernel_rfl) ?_ ?_
  · intro ds h
    match ds, h with
    | [d0, d1], _ => rfl
  · intro W base args ds p hval hA hfz hwt
    have hA' : DataW.TrodAll enc Try.prog W 0 (fun _ => true) true [22, 5] args ds p := hA
    obtain ⟨v0, vs0, d0, ds0, p0, q0, rfl, rfl, rfl, h0, r0⟩ := trodAll_cons hA'
    obtain ⟨v1, vs1, d1, ds1, p1, q1, rfl, rfl, rfl, h1, r1⟩ := trodAll_cons r0
    obtain ⟨rfl, rfl, rfl⟩ := trodAll_nil r1
    have k0 := hval 0 22 v0 rfl rfl
    have k1 := hval 1 5 v1 rfl rfl
    obtain ⟨A0, c0, al0, rfl, e0, f0, g0⟩ := open_claims k0 h0
    simp only [maxLen] at f0
    obtain ⟨n, rfl, a1, b1⟩ := open_num Try.underlying5 k1 h1
    simp [IntKind.min, IntKind.max, IntKind.bits, IntKind.signed] at a1 b1
    exact (bankerTurned_ok g0 e0 (by omega) n (by omega)).use fun v w' ⟨h1, h2⟩ => ⟨by rw [h1], h2.below (fun k h => h.elim) (Nat.le_refl _)⟩
theorem bankerTurned_over : Rows.bankerTurnedRow.holds Try.pinned (OpenSpec.ofChange Rows.bankerTurnedSpec) :=
  OpenClaim.holds_of_wide 7 Try.f7 rfl rfl rfl rfl rfl rfl rfl ⟨rfl, rfl, rfl, rfl, rfl⟩ rfl rfl rfl rfl rfl (by kernel_rfl) Try.func7 (by kernel_rfl)
    (of_decide_eq_true (by kernel_rfl)) (by unfold Func.isWrapper; first | (rw [if_pos (by decide +kernel)]; kernel_rfl) | (rw [if_neg (by decide +kernel)]; exact ⟨rfl, rfl⟩))
    (fun os started H enc _ => bankerTurned_lifted os started H enc)
theorem bankerTurned : Rows.BankerTurnedSaid := bankerTurned_over
end Go.Proofs.Ytlmbbcmaellkoaa
