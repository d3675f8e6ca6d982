/- What is proved here: diskCuts: DiskCutsSaid, for every input. No conditions. -/
import Derived.Test.YtohpoigkpdodmaaDiskR0
import Derived.Test.YtohpoigkpdodmaaDiskE
set_option linter.unusedVariables false
namespace Go.Proofs.Ytohpoigkpdodmaa
open Go Go.Eng Go.Proofs Go.ChangeShapes Go.WideShapes Go.ChangeAt Go.RowKit
theorem diskCuts_lifted (os : Os) (started : os.Started) (H : Type) (enc : TypeId × Value → H) :
    ReturnsInHanded {} Try.checked os 3 .any (Rows.diskCutsSpec.pre6 enc Try.prog Try.f3 [] false) (Rows.diskCutsSpec.post enc Try.prog Try.f3 false true false false) := by
  refine row_true (C := Try.checked) (tb := 4) started own laidOut (by kernel_rfl) Try.func3 (ChangeSpec.witness6 (enc := enc) (C := Try.checked) false ⟨#[], #[.int .u8 0, .int .u8 0], []⟩ 8 (by kernel_rfl) (by kernel_rfl) (by kernel_rfl) (by kernel_rfl)) rfl rfl Ubool (by kernel_rfl) ?_ ?_
  · intro ds h
    match ds, h with
    | [d0, d1], _ => rfl
  · intro W base args ds p hval hA hfz hwt
    have hA' : DataW.TrodAll enc Try.prog W 0 (fun _ => true) true [5, 5] args ds p := hA
    obtain ⟨v0, vs0, d0, ds0, p0, q0, rfl, rfl, rfl, h0, r0⟩ := trodAll_cons hA'
    obtain ⟨v1, vs1, d1, ds1, p1, q1, rfl, rfl, rfl, h1, r1⟩ := trodAll_cons r0
    obtain ⟨rfl, rfl, rfl⟩ := trodAll_nil r1
    obtain ⟨n, rfl, _, _, hm0⟩ := open_int U5 (hval 0 5 v0 rfl rfl) h0
    have hk0 : 0 ≤ n ∧ n < 256 := by simp [Lit.wf, IntKind.min, IntKind.max, IntKind.bits, IntKind.signed] at hm0; omega
    obtain ⟨m, rfl, _, _, hm1⟩ := open_int U5 (hval 1 5 v1 rfl rfl) h1
    have hk1 : 0 ≤ m ∧ m < 256 := by simp [Lit.wf, IntKind.min, IntKind.max, IntKind.bits, IntKind.signed] at hm1; omega
    exact (diskCuts_ok n m hk0 hk1 W).use fun v w' ⟨h1, h2⟩ => ⟨by rw [h1], h2.below (fun k h => h.elim) (Nat.le_refl _)⟩
theorem diskCuts_over : Rows.diskCutsRow.holds Try.pinned (OpenSpec.ofChange Rows.diskCutsSpec) :=
  OpenClaim.holds_of_wide 3 Try.f3 rfl rfl rfl rfl rfl rfl rfl ⟨rfl, rfl, rfl, rfl, rfl⟩ rfl rfl rfl rfl rfl (by kernel_rfl) Try.func3 (by kernel_rfl)
    (of_decide_eq_true (by kernel_rfl)) (by unfold Func.isWrapper; first | (rw [if_pos (by decide +kernel)]; kernel_rfl) | (rw [if_neg (by decide +kernel)]; exact ⟨rfl, rfl⟩))
    (fun os started H enc _ => diskCuts_lifted os started H enc)
theorem diskCuts : Rows.DiskCutsSaid := diskCuts_over
end Go.Proofs.Ytohpoigkpdodmaa
