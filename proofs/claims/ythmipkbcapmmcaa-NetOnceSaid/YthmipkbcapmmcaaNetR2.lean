/- What is proved here: netOrder: NetOrderSaid, for every input. No conditions. -/
import Derived.Test.YthmipkbcapmmcaaNetR1
import Derived.Test.YthmipkbcapmmcaaNetG
set_option linter.unusedVariables false
namespace Go.Proofs.Ythmipkbcapmmcaa
open Go Go.Eng Go.Proofs Go.ChangeShapes Go.WideShapes Go.ChangeAt Go.RowKit
theorem open_acts {H : Type} {enc : TypeId × Value → H} {W : World} {v : Value} {d : DataW H} {p : List MemPlace} (h : DataW.Trod enc Try.prog W 0 (fun _ => true) true 22 v d p) (hv : ∃ A l c, v = .slice A l c) :
    ∃ (A : Option Addr) (l c : Nat) (al : List Act), v = .slice A l c ∧ al.length = l ∧ l ≤ c ∧ RowAt W.heap.size 3 (ActQ W W.heap.size) A al := by
  obtain ⟨A, l, c, rfl⟩ := hv
  obtain ⟨fuel, hf⟩ := h
  obtain ⟨A', l', c', al, h1, h2, h3, h4, h5⟩ := open_slice (α := Act) (n := 3) Try.underlying22 (by kernel_rfl) (by decide) hf (ActQ W W.heap.size) (fun a m ccs y hl hcell hy => by
    obtain ⟨_, m', hf'⟩ := open_struct Try.underlying30 hy
    match ccs, hl with
    | [v0, v1, v2], _ =>
      obtain ⟨y0, k0⟩ := hf' 0 _ rfl
      obtain ⟨y1, k1⟩ := hf' 1 _ rfl
      obtain ⟨y2, k2⟩ := hf' 2 _ rfl
      have k0' : DataW.trod enc Try.prog W 0 (fun _ => true) true m' 5 [v0] = some y0 := k0
      have k1' : DataW.trod enc Try.prog W 0 (fun _ => true) true m' 28 [v1] = some y1 := k1
      have k2' : DataW.trod enc Try.prog W 0 (fun _ => true) true m' 3 [v2] = some y2 := k2
      obtain ⟨n, rfl, n1, n2⟩ := open_int' U5 k0'
      obtain ⟨A1, c1, xs, rfl, _, _, hr⟩ := open_bytes U28 U5 (by kernel_rfl) k1'
      obtain ⟨i, rfl, i1, i2⟩ := open_int' U3 k2'
      have hc0 := hcell 0 _ rfl
      rw [add_zero'] at hc0
      simp [IntKind.min, IntKind.max, IntKind.bits, IntKind.signed] at n1 n2
      exact ⟨(n, xs, i), A1, c1, hc0, hcell 1 _ rfl, hcell 2 _ rfl, hr, n1, by omega, i1, i2⟩)
  simp [Value.cells] at h1
  obtain ⟨rfl, rfl, rfl⟩ := h1
  exact ⟨A, l, c, al, rfl, h2, h3, h5⟩
theorem netOrder_lifted (os : Os) (started : os.Started) (H : Type) (enc : TypeId × Value → H) :
    ReturnsInHanded {} Try.checked os 6 .any (Rows.netOrderSpec.pre6 enc Try.prog Try.f6 [] false) (Rows.netOrderSpec.post enc Try.prog Try.f6 false true false false) := by
  refine row_true (C := Try.checked) (tb := 4) started own laidOut (by kernel_rfl) Try.func6 (ChangeSpec.witness6 (enc := enc) (C := Try.checked) false ⟨#[], #[.slice none 0 0, .int .i64 0], []⟩ 8 (by kernel_rfl) (by kernel_rfl) (by kernel_rfl) (by kernel_rfl)) rfl rfl U4 (by kernel_rfl) ?_ ?_
  · intro ds h
    match ds, h with
    | [d, e], _ => rfl
  · intro W base args ds p hval hA hfz hwt
    have hA' : DataW.TrodAll enc Try.prog W 0 (fun _ => true) true [22, 3] args ds p := hA
    obtain ⟨v0, vs0, d0, ds0, p0, q0, rfl, rfl, rfl, h0, r0⟩ := trodAll_cons hA'
    obtain ⟨v1, vs1, d1, ds1, p1, q1, rfl, rfl, rfl, h1, r1⟩ := trodAll_cons r0
    obtain ⟨rfl, rfl, rfl⟩ := trodAll_nil r1
    obtain ⟨A, l, c, al, rfl, e1, e2, e3⟩ := open_acts h0 (okWide_slice Try.underlying22 (hval 0 22 v0 rfl rfl))
    obtain ⟨i, rfl, _, _, _⟩ := open_int U3 (hval 1 3 v1 rfl rfl) h1
    exact (netOrder_ok e3 e1 e2 i).use fun v w' ⟨h1, h2⟩ => ⟨by rw [h1], h2.below (fun k h => h.elim) (Nat.le_refl _)⟩
theorem netOrder_over : Rows.netOrderRow.holds Try.pinned (OpenSpec.ofChange Rows.netOrderSpec) :=
  OpenClaim.holds_of_wide 6 Try.f6 rfl rfl rfl rfl rfl rfl rfl ⟨rfl, rfl, rfl, rfl, rfl⟩ rfl rfl rfl rfl rfl (by kernel_rfl) Try.func6 (by kernel_rfl)
    (of_decide_eq_true (by kernel_rfl)) (by unfold Func.isWrapper; first | (rw [if_pos (by decide +kernel)]; kernel_rfl) | (rw [if_neg (by decide +kernel)]; exact ⟨rfl, rfl⟩))
    (fun os started H enc _ => netOrder_lifted os started H enc)
theorem netOrder : Rows.NetOrderSaid := netOrder_over
end Go.Proofs.Ythmipkbcapmmcaa
