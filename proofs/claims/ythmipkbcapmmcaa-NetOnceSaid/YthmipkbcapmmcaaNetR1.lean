/- What is proved here: netNil: NetNilSaid, for every input; netFull: NetFullSaid, for every input. No conditions. -/
import Derived.Test.YthmipkbcapmmcaaRows
import Derived.Test.YthmipkbcapmmcaaNetE
import Derived.Test.YthmipkbcapmmcaaRow
import Derived.Lib.SmallJoins
set_option linter.unusedVariables false
namespace Go.Proofs.Ythmipkbcapmmcaa
open Go Go.Eng Go.Proofs Go.ChangeShapes Go.WideShapes Go.ChangeAt Go.RowKit
theorem own : ownKnob Try.prog.godebug = none := by kernel_rfl
theorem laidOut : laidOutB Try.prog = true := by kernel_rfl
theorem U3 : Try.prog.underlying 3 = some (.int .i64) := by kernel_rfl
theorem U4 : Try.prog.underlying 4 = some .bool := by kernel_rfl

theorem netFull_lifted (os : Os) (started : os.Started) (H : Type) (enc : TypeId × Value → H) :
    ReturnsInHanded {} Try.checked os 7 .any (Rows.netFullSpec.pre6 enc Try.prog Try.f7 [] false) (Rows.netFullSpec.post enc Try.prog Try.f7 false true false false) := by
  refine row_true (C := Try.checked) (tb := 4) started own laidOut (by kernel_rfl) Try.func7 (ChangeSpec.witness6 (enc := enc) (C := Try.checked) false ⟨#[], #[.int .u8 0, .bool false], []⟩ 8 (by kernel_rfl) (by kernel_rfl) (by kernel_rfl) (by kernel_rfl)) rfl rfl U4 (by kernel_rfl) ?_ ?_
  · intro ds h
    match ds, h with
    | [d, e], _ => rfl
  · intro W base args ds p hval hA hfz hwt
    have hA' : DataW.TrodAll enc Try.prog W 0 (fun _ => true) true [5, 4] args ds p := hA
    obtain ⟨v0, vs0, d0, ds0, p0, q0, rfl, rfl, rfl, h0, r0⟩ := trodAll_cons hA'
    obtain ⟨v1, vs1, d1, ds1, p1, q1, rfl, rfl, rfl, h1, r1⟩ := trodAll_cons r0
    obtain ⟨rfl, rfl, rfl⟩ := trodAll_nil r1
    obtain ⟨m, rfl, _, _, hm⟩ := open_int U5 (hval 0 5 v0 rfl rfl) h0
    obtain ⟨b, rfl, _⟩ := open_bool U4 (hval 1 4 v1 rfl rfl) h1
    have hm' : 0 ≤ m ∧ m < 256 := by simp [Lit.wf, IntKind.min, IntKind.max, IntKind.bits, IntKind.signed] at hm; omega
    exact (netFull_ok m hm' b W).use fun v w' ⟨h1, h2⟩ => ⟨by rw [h1], h2.below (fun k h => h.elim) (Nat.le_refl _)⟩
theorem netFull_over : Rows.netFullRow.holds Try.pinned (OpenSpec.ofChange Rows.netFullSpec) :=
  OpenClaim.holds_of_wide 7 Try.f7 rfl rfl rfl rfl rfl rfl rfl ⟨rfl, rfl, rfl, rfl, rfl⟩ rfl rfl rfl rfl rfl (by kernel_rfl) Try.func7 (by kernel_rfl)
    (of_decide_eq_true (by kernel_rfl)) (by unfold Func.isWrapper; first | (rw [if_pos (by decide +kernel)]; kernel_rfl) | (rw [if_neg (by decide +kernel)]; exact ⟨rfl, rfl⟩))
    (fun os started H enc _ => netFull_lifted os started H enc)
theorem netNil_lifted (os : Os) (started : os.Started) (H : Type) (enc : TypeId × Value → H) :
    ReturnsInHanded {} Try.checked os 5 .any (Rows.netNilSpec.pre6 enc Try.prog Try.f5 [] false) (Rows.netNilSpec.post enc Try.prog Try.f5 false true false false) := by
  refine row_true (C := Try.checked) (tb := 4) started own laidOut (by kernel_rfl) Try.func5 (ChangeSpec.witness6 (enc := enc) (C := Try.checked) false ⟨#[], #[.agg #[.int .u8 0, .slice none 0 0, .int .i64 0]], []⟩ 8 (by kernel_rfl) (by kernel_rfl) (by kernel_rfl) (by kernel_rfl)) rfl rfl U4 (by kernel_rfl) ?_ ?_
  · intro ds h
    match ds, h with
    | [d], _ => rfl
  · intro W base args ds p hval hA hfz hwt
    have hA' : DataW.TrodAll enc Try.prog W 0 (fun _ => true) true [30] args ds p := hA
    obtain ⟨v0, vs0, d0, ds0, p0, q0, rfl, rfl, rfl, h0, r0⟩ := trodAll_cons hA'
    obtain ⟨rfl, rfl, rfl⟩ := trodAll_nil r0
    obtain ⟨x0, x1, x2, y0, y1, y2, n, rfl, _, _, k0, k1, k2⟩ := Go.Joins.open_agg3 Try.underlying30 (by kernel_rfl) (by kernel_rfl) (hval 0 30 v0 rfl rfl) h0
    obtain ⟨m, e0, _⟩ := DataW.trod_int U5 k0
    obtain ⟨i, e2, _⟩ := DataW.trod_int U3 k2
    obtain ⟨A, l, c, e1⟩ : ∃ A l c, x1 = .slice A l c := by
      rcases DataW.trod_slice U28 k1 with ⟨h, _⟩ | ⟨a, len, cap, _, _, _, _, h, _⟩
      · simp at h; exact ⟨_, _, _, h⟩
      · simp at h; exact ⟨_, _, _, h⟩
    simp at e0 e2
    subst e0 e1 e2
    exact (netNil_ok m A l c i W).use fun v w' ⟨h1, h2⟩ => ⟨by rw [h1], h2.below (fun k h => h.elim) (Nat.le_refl _)⟩
theorem netNil_over : Rows.netNilRow.holds Try.pinned (OpenSpec.ofChange Rows.netNilSpec) :=
  OpenClaim.holds_of_wide 5 Try.f5 rfl rfl rfl rfl rfl rfl rfl ⟨rfl, rfl, rfl, rfl, rfl⟩ rfl rfl rfl rfl rfl (by kernel_rfl) Try.func5 (by kernel_rfl)
    (of_decide_eq_true (by kernel_rfl)) (by unfold Func.isWrapper; first | (rw [if_pos (by decide +kernel)]; kernel_rfl) | (rw [if_neg (by decide +kernel)]; exact ⟨rfl, rfl⟩))
    (fun os started H enc _ => netNil_lifted os started H enc)
theorem netNil : Rows.NetNilSaid := netNil_over
theorem netFull : Rows.NetFullSaid := netFull_over
end Go.Proofs.Ythmipkbcapmmcaa
