/- TopFree: the row, for every input; and the tied card. No conditions but the row's own: what the listed variables hold. -/
import Derived.Test.YtmhjjhpgbafjpaaDoorRowKfree
import Derived.Test.YtmhjjhpgbafjpaaDoorTfDfree
import Derived.Test.YtmhjjhpgbafjpaaDoorCards
import Derived.Test.YtmhjjhpgbafjpaaDoorTie
import Derived.Deep.DeepHandedRow
import Derived.LaidMore
import Derived.Lay
import Derived.SevenTiedAt
import Derived.Stop.Joined
set_option linter.unusedVariables false
set_option maxRecDepth 100000
namespace Go.Eng
open Go Go.ChangeShapes Go.WideShapes Go.ChangeAt Go.RowKit
/-- A law that returns true and leaves what was there: its row, from the law's own walk, where the row lists what variables hold. -/
theorem row_true_laid {C : Checked} {os : Os} {H : Type} {enc : TypeId × Value → H} {f : FuncId} {fn : Func} {s : ChangeSpec} {l : List (String × DataW Unit)} {tb : TypeId} (started : os.Started)
    (own : ownKnob C.prog.godebug = none) (laid : laidOutB C.prog = true) (noInit : C.prog.inits.idxOf? f = none) (hfn : C.prog.funcs[f]? = some fn)
    (witness : ∃ (w : World) (tape : Tape) (i : Input), w.os = os ∧ (w.forCall tape i).Shaped C.prog ∧ i.vars = [] ∧ Input.okWide C.prog (w.forCall tape i) .any w.heap.size f i ∧
      (OpenSpec.ofChange s).preRow enc C.prog fn [] false l (w.forCall tape i).memory i.args ∧ ({} : Assume).holds C.prog (lone (Frame.enter C.prog f i.args .normal) [] (w.forCall tape i)))
    (hvars : s.vars = []) (hres : fn.resultTypes = #[tb]) (htb : C.prog.underlying tb = some .bool)
    (hts : (fn.params.toList.all fun t => C.prog.readableRec t && Nat.blt t C.prog.types.size) = true)
    (hspec : ∀ ds : List (DataW H), ds.length = fn.params.toList.length → s.fn H ds = { results := [.lit (.bool true)], args := ds })
    (walk : ∀ (W : World) (base : Nat) (args : List Value) (ds : List (DataW H)) (p : List MemPlace),
      (∀ (j : Nat) t v, fn.params[j]? = some t → args[j]? = some v → Value.okWide C.prog W .any base t v) →
      DataW.TrodAll enc C.prog W 0 (fun _ => true) true fn.params.toList args ds p → W.ShapedOpen C.prog →
      Calls C.prog f ⟨args⟩ W fun e W' => e = .returned (.bool true) ∧ RowKit.Below W.heap.size W W') :
    ReturnsInHanded {} C os f .any ((OpenSpec.ofChange s).preRow enc C.prog fn [] false l) (s.post enc C.prog fn false true false false) := by
  refine returnsInHanded_of_row (F := fun _ _ _ => 0) (s := OpenSpec.ofChange s) own started noInit hfn witness ?_
  intro W base args ds gs before hval hW hc hk hwt hL hsh _
  have hW' : DataW.Whole enc C.prog fn.params.toList s.vars false W args.toList ds gs before := hW
  obtain ⟨p, q, hA, hV, rfl, hfz, hnd⟩ := hW
  have ev : (OpenSpec.ofChange s).vars = [] := hvars
  rw [ev] at hV
  obtain ⟨rfl, rfl⟩ := trodVars_none hV
  obtain ⟨args⟩ := args
  show Calls _ _ _ _ fun e W' => ∃ v, e = .returned v ∧ s.post enc C.prog fn false true false false W ⟨args⟩ v W'
  refine (walk W base args ds p (by simpa using hval) hA hsh).mono fun e W' ⟨he, bel⟩ => ?_
  subst he
  obtain ⟨h1, h2⟩ := trodAll_below laid bel _ _ _ _ hts hA
  refine ⟨_, rfl, ds, [], _, [], p, [], hW', ?_, ?_, ?_, bel.frame _, fun h => by cases h⟩
  · rw [List.append_nil, hspec ds h2, hres]
    exact trodAll_mk1 (shut_bool htb _)
  · rw [List.append_nil, hspec ds h2]
    exact h1
  · rw [List.append_nil, hspec ds h2, hvars]
    rfl
end Go.Eng
namespace Go.Proofs.YtmhjjhpgbafjpaaDoor
open Go Go.Eng Go.Proofs Go.ChangeShapes Go.WideShapes Go.ChangeAt Go.RowKit
theorem open_want {H : Type} {enc : TypeId × Value → H} {W : World} {b0 : Nat} {v : Value} {d : DataW H} {p : List MemPlace} (hv : Value.okWide Tryd.prog W .any b0 23 v) (h : DataW.Trod enc Tryd.prog W 0 (fun _ => true) true 23 v d p) : ∃ a b c : Int, v = .agg ⟨[.int .i64 a, .int .i64 b, .int .i64 c]⟩ := by
  obtain ⟨x0, x1, x2, y0, y1, y2, n, rfl, _, _, k0, k1, k2⟩ := Go.Joins.open_agg3 Tryd.underlying23 (by kernel_rfl) (by kernel_rfl) hv h
  obtain ⟨m0, e0, _⟩ := DataW.trod_int Tryd.underlying3 k0
  obtain ⟨m1, e1, _⟩ := DataW.trod_int Tryd.underlying3 k1
  obtain ⟨m2, e2, _⟩ := DataW.trod_int Tryd.underlying3 k2
  simp at e0 e1 e2
  subst e0 e1 e2
  exact ⟨m0, m1, m2, rfl⟩
theorem topFree_witness (os : Os) {H : Type} (enc : TypeId × Value → H) : ∃ (w : World) (tape : Tape) (i : Input), w.os = os ∧ (w.forCall tape i).Shaped Tryd.prog ∧ i.vars = [] ∧ Input.okWide Tryd.prog (w.forCall tape i) .any w.heap.size 3 i ∧
      (OpenSpec.ofChange Rows.topFreeSpec).preRow enc Tryd.prog Tryd.f3 [] false Rows.topFreeRow.laid (w.forCall tape i).memory i.args ∧ ({} : Assume).holds Tryd.prog (lone (Frame.enter Tryd.prog 3 i.args .normal) [] (w.forCall tape i)) :=
  ChangeSpec.witness_shaped (enc := enc) (C := Tryd.checked) (os := os) (fn := Tryd.f3) (s := Rows.topFreeSpec) (conds := []) (apart := false) (X := fun w _ => laidMetH Tryd.prog Rows.topFreeRow.laid w) false (World.laidAll Tryd.prog os Rows.topFreeRow.laid) #[.string ⟨#[]⟩, .agg #[.int .i64 0, .int .i64 0, .int .i64 0], .agg #[.int .i64 0, .int .i64 0, .int .i64 0]] 8 (World.laidAll_os _ _ _)
      (World.shaped_of_ZipB (by kernel_rfl) (by kernel_rfl)) (by kernel_rfl) (by kernel_rfl) (by kernel_rfl)
      (by rw [MakeChecks.laidMetH_plain _ _ _ (by kernel_rfl)]; exact laidMet_laidAll _ (by kernel_rfl) (by kernel_rfl))
theorem topFree_lifted (os : Os) (started : os.Started) (H : Type) (enc : TypeId × Value → H) :
    ReturnsInHanded {} Tryd.checked os 3 .any ((OpenSpec.ofChange Rows.topFreeSpec).preRow enc Tryd.prog Tryd.f3 [] false Rows.topFreeRow.laid) (Rows.topFreeSpec.post enc Tryd.prog Tryd.f3 false true false false) := by
  refine row_true_laid (C := Tryd.checked) (tb := 4) started own laidOut (by kernel_rfl) Tryd.func3 (topFree_witness os enc) rfl rfl Ubool (by kernel_rfl) ?_ ?_
  · intro ds h
    match ds, h with
    | [d0, d1, d2], _ => rfl
  · intro W base args ds p hval hA hsh
    have hA' : DataW.TrodAll enc Tryd.prog W 0 (fun _ => true) true [9, 23, 23] args ds p := hA
    obtain ⟨v0, vs0, d0, ds0, p0, q0, rfl, rfl, rfl, h0, r0⟩ := trodAll_cons hA'
    obtain ⟨v1, vs1, d1, ds1, p1, q1, rfl, rfl, rfl, h1, r1⟩ := trodAll_cons r0
    obtain ⟨v2, vs2, d2, ds2, p2, q2, rfl, rfl, rfl, h2, r2⟩ := trodAll_cons r1
    obtain ⟨rfl, rfl, rfl⟩ := trodAll_nil r2
    have k0 := hval 0 9 v0 rfl rfl
    have k1 := hval 1 23 v1 rfl rfl
    have k2 := hval 2 23 v2 rfl rfl
    obtain ⟨t, rfl, _⟩ := Go.ChangeMaps.open_string (P := Tryd.prog) (t := 9) (by kernel_rfl) k0 h0
    obtain ⟨a0, a1, a2, rfl⟩ := open_want k1 h1
    obtain ⟨b0, b1, b2, rfl⟩ := open_want k2 h2
    obtain ⟨m, hm⟩ := Tryd.laysM146.s1_3 W hsh
    have hm : W.cell? ⟨0, 0, none⟩ = some (.int .i64 m) := hm
    have hw : 0 < W.heap.size := by
      rcases Nat.eq_zero_or_pos W.heap.size with h | h
      · unfold World.cell? at hm
        rw [Array.getElem?_eq_none (show W.heap.size ≤ 0 by omega)] at hm
        cases hm
      · exact h
    exact (free_ok t a0 a1 a2 b0 b1 b2 hm hw).use fun v w' ⟨h1, h2⟩ => ⟨by rw [h1], h2.below (fun k h => h.elim) (Nat.le_refl _)⟩
theorem topFree_row : Rows.topFreeRow.holds Tryd.pinned (OpenSpec.ofChange Rows.topFreeSpec) :=
  OpenClaim.holds_of_wide 3 Tryd.f3 rfl rfl rfl rfl rfl rfl rfl ⟨rfl, rfl, rfl, rfl, rfl⟩ rfl rfl rfl rfl rfl (by kernel_rfl) Tryd.func3 (by kernel_rfl)
    (of_decide_eq_true (by kernel_rfl)) (by unfold Func.isWrapper; first | (rw [if_pos (by decide +kernel)]; kernel_rfl) | (rw [if_neg (by decide +kernel)]; exact ⟨rfl, rfl⟩))
    (fun os started H enc _ => by rw [OpenClaim.pre_eq_preRow]; exact topFree_lifted os started H enc)
theorem topFree : Rows.TopFreeCardSaid :=
  Claim7.holds_tied_plain_at .later [] [.data, .pinned] true (true, "681f3928522c9951244f57bbd28e02629d850c247606a3c03d3a2be91b9950cd") false topFree_row (fun _ h => by cases h) (by kernel_rfl) (fun _ h => by cases h) topFree_row_tie rfl ⟨rfl, rfl⟩ (by kernel_rfl) rfl
    (fun f fn hf hfn => by
      obtain rfl : f = 3 := Option.some.inj ((show Tryd.prog.funcNamed "carfax/carfaxtop.TopFree" = some 3 by kernel_rfl).symm.trans hf) |>.symm
      obtain rfl : fn = Tryd.f3 := (Option.some.inj ((show Tryd.prog.funcs[3]? = some Tryd.f3 from Tryd.func3).symm.trans hfn)).symm
      exact ⟨by kernel_rfl, fun j t ht => by
        have ht : (#[9, 23, 23] : Array TypeId)[j]? = some t := ht
        have hm : t ∈ [9, 23, 23] := by simpa using Array.mem_of_getElem? ht
        have hall : ([9, 23, 23].all fun u => !Tryd.prog.wantsStandIn u) = true := by kernel_rfl
        exact (show Tryd.prog.wantsStandIn t = false by simpa using List.all_eq_true.1 hall t hm)⟩)
    (by kernel_rfl)
end Go.Proofs.YtmhjjhpgbafjpaaDoor
