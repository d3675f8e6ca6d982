/- What is proved here: heapKeys: HeapKeysSaid, for every input. No conditions. -/
import Derived.Test.YtgcoecbbgipgpaaHeapR0
import Derived.Test.YtgcoecbbgipgpaaHeapH
set_option linter.unusedVariables false
namespace Go.Proofs.Ytgcoecbbgipgpaa
open Go Go.Eng Go.Proofs Go.ChangeShapes Go.WideShapes Go.ChangeAt Go.RowKit
theorem U46 : Try.prog.underlying 46 = some (.int .u16) := by kernel_rfl
theorem heapKeys_lifted (os : Os) (started : os.Started) (H : Type) (enc : TypeId × Value → H) :
    ReturnsInHanded {} Try.checked os 9 .any (Rows.heapKeysSpec.pre6 enc Try.prog Try.f9 [] false) (Rows.heapKeysSpec.post enc Try.prog Try.f9 false true false false) := by
  refine row_true (C := Try.checked) (tb := 4) started own laidOut (by kernel_rfl) Try.func9 (ChangeSpec.witness6 (enc := enc) (C := Try.checked) false ⟨#[], #[.slice none 0 0, .int .u16 0], []⟩ 8 (by kernel_rfl) (by kernel_rfl) (by kernel_rfl) (by kernel_rfl)) rfl rfl Ubool (by kernel_rfl) ?_ ?_
  · intro ds h
    match ds, h with
    | [d0, d1], _ => rfl
  · intro W base args ds p hval hA hfz hwt
    have hA' : DataW.TrodAll enc Try.prog W 0 (fun _ => true) true [27, 46] args ds p := hA
    obtain ⟨v0, vs0, d0, ds0, p0, q0, rfl, rfl, rfl, h0, r0⟩ := trodAll_cons hA'
    obtain ⟨v1, vs1, d1, ds1, p1, q1, rfl, rfl, rfl, h1, r1⟩ := trodAll_cons r0
    obtain ⟨rfl, rfl, rfl⟩ := trodAll_nil r1
    obtain ⟨A, l, c, xs, rfl, e0, f0, g0⟩ := open_items h0 (okWide_slice Try.underlying27 (hval 0 27 v0 rfl rfl))
    obtain ⟨m, rfl, _, _, hm⟩ := open_int U46 (hval 1 46 v1 rfl rfl) h1
    have hm' : 0 ≤ m ∧ m < 65536 := by simp [Lit.wf, IntKind.min, IntKind.max, IntKind.bits, IntKind.signed] at hm; omega
    exact (heapKeys_ok g0 e0 f0 m hm').use fun v w' ⟨h1, h2⟩ => ⟨by rw [h1], h2.below (fun k h => h.elim) (Nat.le_refl _)⟩
theorem heapKeys_over : Rows.heapKeysRow.holds Try.pinned (OpenSpec.ofChange Rows.heapKeysSpec) :=
  OpenClaim.holds_of_wide 9 Try.f9 rfl rfl rfl rfl rfl rfl rfl ⟨rfl, rfl, rfl, rfl, rfl⟩ rfl rfl rfl rfl rfl (by kernel_rfl) Try.func9 (by kernel_rfl)
    (of_decide_eq_true (by kernel_rfl)) (by unfold Func.isWrapper; first | (rw [if_pos (by decide +kernel)]; kernel_rfl) | (rw [if_neg (by decide +kernel)]; exact ⟨rfl, rfl⟩))
    (fun os started H enc _ => heapKeys_lifted os started H enc)
theorem heapKeys : Rows.HeapKeysSaid := heapKeys_over
end Go.Proofs.Ytgcoecbbgipgpaa
