/- What is proved here: diskApart: DiskApartSaid, for every input. No conditions. -/
import Derived.Test.YtohpoigkpdodmaaDiskR0
import Derived.Test.YtohpoigkpdodmaaDiskF
set_option linter.unusedVariables false
namespace Go.Proofs.Ytohpoigkpdodmaa
open Go Go.Eng Go.Proofs Go.ChangeShapes Go.WideShapes Go.ChangeAt Go.RowKit
theorem diskApart_lifted (os : Os) (started : os.Started) (H : Type) (enc : TypeId × Value → H) :
    ReturnsInHanded {} Try.checked os 7 .any (Rows.diskApartSpec.pre6 enc Try.prog Try.f7 [] false) (Rows.diskApartSpec.post enc Try.prog Try.f7 false true false false) := by
  refine row_true (C := Try.checked) (tb := 4) started own laidOut (by kernel_rfl) Try.func7 (ChangeSpec.witness6 (enc := enc) (C := Try.checked) false ⟨#[], #[.slice none 0 0, .slice none 0 0], []⟩ 8 (by kernel_rfl) (by kernel_rfl) (by kernel_rfl) (by kernel_rfl)) rfl rfl Ubool (by kernel_rfl) ?_ ?_
  · intro ds h
    match ds, h with
    | [d0, d1], _ => rfl
  · intro W base args ds p hval hA hfz hwt
    have hA' : DataW.TrodAll enc Try.prog W 0 (fun _ => true) true [33, 33] args ds p := hA
    obtain ⟨v0, vs0, d0, ds0, p0, q0, rfl, rfl, rfl, h0, r0⟩ := trodAll_cons hA'
    obtain ⟨v1, vs1, d1, ds1, p1, q1, rfl, rfl, rfl, h1, r1⟩ := trodAll_cons r0
    obtain ⟨rfl, rfl, rfl⟩ := trodAll_nil r1
    obtain ⟨A0, l0, c0, al0, rfl, e0, f0, g0⟩ := open_acts h0 (okWide_slice Try.underlying33 (hval 0 33 v0 rfl rfl))
    obtain ⟨A1, l1, c1, al1, rfl, e1, f1, g1⟩ := open_acts h1 (okWide_slice Try.underlying33 (hval 1 33 v1 rfl rfl))
    exact (diskApart_ok g0 e0 f0 g1 e1 f1).use fun v w' ⟨h1, h2⟩ => ⟨by rw [h1], h2.below (fun k h => h.elim) (Nat.le_refl _)⟩
theorem diskApart_over : Rows.diskApartRow.holds Try.pinned (OpenSpec.ofChange Rows.diskApartSpec) :=
  OpenClaim.holds_of_wide 7 Try.f7 rfl rfl rfl rfl rfl rfl rfl ⟨rfl, rfl, rfl, rfl, rfl⟩ rfl rfl rfl rfl rfl (by kernel_rfl) Try.func7 (by kernel_rfl)
    (of_decide_eq_true (by kernel_rfl)) (by unfold Func.isWrapper; first | (rw [if_pos (by decide +kernel)]; kernel_rfl) | (rw [if_neg (by decide +kernel)]; exact ⟨rfl, rfl⟩))
    (fun os started H enc _ => diskApart_lifted os started H enc)
theorem diskApart : Rows.DiskApartSaid := diskApart_over
end Go.Proofs.Ytohpoigkpdodmaa
