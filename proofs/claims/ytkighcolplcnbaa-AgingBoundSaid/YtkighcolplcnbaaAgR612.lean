/- What is proved here: agingBound: AgingBoundSaid, for every input. No conditions. -/
import Derived.Test.YtkighcolplcnbaaAgRO12
import Derived.Test.YtkighcolplcnbaaAgW12
set_option linter.unusedVariables false
set_option maxRecDepth 100000
namespace Go.Proofs.Ytkighcolplcnbaa
open Go Go.Eng Go.Proofs Go.ChangeShapes Go.WideShapes Go.ChangeAt Go.RowKit
theorem agingBound_lifted (os : Os) (started : os.Started) (H : Type) (enc : TypeId × Value → H) :
    ReturnsInHanded {} Try.checked os 3 .any (Rows.agingBoundSpec.pre6 enc Try.prog Try.f3 [] false) (Rows.agingBoundSpec.post enc Try.prog Try.f3 false true false false) := by
  refine row_true (C := Try.checked) (tb := 4) started own laidOut (by kernel_rfl) Try.func3 (ChangeSpec.witness6 (enc := enc) (C := Try.checked) false ⟨#[], #[.int .u8 0, .slice none 0 0], []⟩ 8 (by kernel_rfl) (by kernel_rfl) (by kernel_rfl) (by kernel_rfl)) rfl rfl Ubool (by kernel_rfl) ?_ ?_
  · intro ds h
    match ds, h with
    | [d0, d1], _ => rfl
  · intro W base args ds p hval hA hfz hwt
    have hA' : DataW.TrodAll enc Try.prog W 0 (fun _ => true) true [5, 22] args ds p := hA
    obtain ⟨v0, vs0, d0, ds0, p0, q0, rfl, rfl, rfl, h0, r0⟩ := trodAll_cons hA'
    obtain ⟨v1, vs1, d1, ds1, p1, q1, rfl, rfl, rfl, h1, r1⟩ := trodAll_cons r0
    obtain ⟨rfl, rfl, rfl⟩ := trodAll_nil r1
    have k0 := hval 0 5 v0 rfl rfl
    have k1 := hval 1 22 v1 rfl rfl
    obtain ⟨n, rfl, a0, b0⟩ := open_num Try.underlying5 k0 h0
    simp [IntKind.min, IntKind.max, IntKind.bits, IntKind.signed] at a0 b0
    obtain ⟨A1, c1, al1, rfl, e1, f1, g1⟩ := open_acts k1 h1
    simp only [maxLen] at f1
    exact (agingBound_ok g1 e1 (by omega) (st := n) (by omega)).use fun v w' ⟨h1, h2⟩ => ⟨by rw [h1], h2.below (fun k h => h.elim) (Nat.le_refl _)⟩
theorem agingBound_over : Rows.agingBoundRow.holds Try.pinned (OpenSpec.ofChange Rows.agingBoundSpec) :=
  OpenClaim.holds_of_wide 3 Try.f3 rfl rfl rfl rfl rfl rfl rfl ⟨rfl, rfl, rfl, rfl, rfl⟩ rfl rfl rfl rfl rfl (by kernel_rfl) Try.func3 (by kernel_rfl)
    (of_decide_eq_true (by kernel_rfl)) (by unfold Func.isWrapper; first | (rw [if_pos (by decide +kernel)]; kernel_rfl) | (rw [if_neg (by decide +kernel)]; exact ⟨rfl, rfl⟩))
    (fun os started H enc _ => agingBound_lifted os started H enc)
theorem agingBound : Rows.AgingBoundSaid := agingBound_over
end Go.Proofs.Ytkighcolplcnbaa
