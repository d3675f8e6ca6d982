/- Floors: the walk over the lanes. -/
import Derived.Test.YtmhjjhpgbafjpaaDoorFlEfree
set_option linter.unusedVariables false
set_option maxRecDepth 100000
namespace Go.Proofs
open Go Go.Eng
theorem last_get {l : List Int} {x : Int} (h : l.getLast? = some x) : l[l.length - 1]? = some x ∧ 0 < l.length := by
  rw [List.getLast?_eq_getElem?] at h
  have := (List.getElem?_eq_some_iff.1 h).1
  exact ⟨h, by omega⟩
/-- How many entries a map has, by its own count. -/
noncomputable def mlen (w : World) (m : Nat) : Nat := match (Builtin.len_ #[118] 3 #[.map (some m)]).run Tryd.prog w with
  | .ok (.int _ n) _ => n.toNat
  | _ => 0
theorem JW.mlen {w0 w : World} {f : Fl} {m : Nat} {s : JS} {A : Option Addr} {c : Nat} (h : JW w0 w f m s A c) : mlen w m = s.1.length := by
  obtain ⟨n, hn, i⟩ := h.mp
  unfold Go.Proofs.mlen
  rw [i.len uMb 3]
  simp
theorem jbs_ok {n : Nat} : ∀ (l : List Int) {s : JS}, JOk n s → JOk n (l.foldl jb s)
  | [], s, h => h
  | b :: l, s, h => jbs_ok l (jb_ok h b)
theorem joined_ok {f : Fl} (hs : Side f) (hz : (f.C.size : Int) = f.W * f.H) (w : World) : Ret Tryd.prog 46 [fval f] w fun v w' => v = .bool (joinedV f) ∧ Fr none1 w w' := by
  have hC : f.C.size ≤ 256 := by have := side_mul hs; omega
  apply S46_calls
  have b0 := (Blk.new w 25 (fcell f)).alloc (.map #[] 0)
  have es : (w.alloc (.cells ⟨fcell f⟩ 25)).heap.size = w.heap.size + 1 := by simp
  have m0 := IM.made (w.alloc (.cells ⟨fcell f⟩ 25)) Tryd.prog 3
  have f0 : Fr none1 w ((w.alloc (.cells ⟨fcell f⟩ 25)).alloc (.map #[] 0)) := (Fr.alloc _ _ : Fr none1 w (w.alloc (.cells ⟨fcell f⟩ 25))).trans' (Fr.alloc _ _)
  rw [es] at m0
  have J0 : JW w ((w.alloc (.cells ⟨fcell f⟩ 25)).alloc (.map #[] 0)) f (w.heap.size + 1) (lanesF f.C 0, []) none 0 := by
    refine ⟨b0, ⟨0, by omega, ?_⟩, Own.nil _ _ _ _, rfl, f0.bel0⟩
    have e : (fun _ : Int => (none : Option Value)) = lf (lanesF f.C 0) := by funext a; exact (if_neg (by simp [lanesF])).symm
    rw [← e]
    exact m0
  refine ⟨_, b0.cell 2, fun s w' => ∃ (i : Nat) (A : Option Addr) (c : Nat), s = ((A, ((lanesF f.C i).getLast?.toList).length, c), (i : Int), ()) ∧ i ≤ f.C.size ∧ JW w w' f (w.heap.size + 1) (lanesF f.C i, (lanesF f.C i).getLast?.toList) A c, fun s _ => f.C.size - s.2.1.toNat, ⟨0, none, 0, rfl, Nat.zero_le _, J0⟩, ?_⟩
  rintro J s w1 ⟨i, A, c, rfl, hi, W1⟩
  dsimp only
  rw [show (w.alloc (.cells ⟨[.int .i64 f.W, .int .i64 f.H, .string f.C]⟩ 25)).heap.size = w.heap.size + 1 from es]
  refine cD (fun hlt => ?_) (fun hlt => ?_)
  · have hi' : i < f.C.size := by omega
    obtain ⟨ch, hc⟩ := ba_get hi'
    refine ⟨_, W1.fl.cell 2, ch, by omega, by rw [Int.toNat_natCast]; exact hc, ?_⟩
    refine (kind_ok ch w1).use ?_
    rintro v w2 ⟨rfl, rfl⟩
    refine ⟨_, rfl, ?_⟩
    have hk := kdF_get hc
    have hsucc := lanesF_succ f.C i
    by_cases h2 : kdB ch = 2
    · rw [if_pos (by rw [hk, h2])] at hsucc
      refine cT (by rw [h2]; rfl) ?_
      have hr : IntKind.i64.min ≤ (i : Int) ∧ (i : Int) ≤ IntKind.i64.max := by simp [IntKind.min, IntKind.max, IntKind.bits, IntKind.signed]; omega
      obtain ⟨n, hn, im⟩ := W1.mp
      have imt := im.tight
      have hll := lanesF_len f.C i
      obtain ⟨w3, r3, i3, f3⟩ := imt.update uInt uMb (by simp only [maxLen]; omega) hr (.bool true)
      refine ⟨w3, r3, ?_⟩
      have hne : lf (lanesF f.C i) (i : Int) = none := if_neg fun h => by have := (lanesF_mem h).2; omega
      rw [hne] at i3
      have e3 : (if (none : Option Value).isSome = true then (lanesF f.C i).length else (lanesF f.C i).length + 1) = (lanesF f.C i ++ [(i : Int)]).length := by simp
      rw [e3, lf_add, ← hsucc] at i3
      have fa : Fr none1 w3 (w3.alloc (.cells ⟨[.int .i64 (i : Int)]⟩ 3)) := Fr.alloc _ _
      have lit := Own.lit w3 3 1 1 [.int .i64 (i : Int)] rfl (by simp [maxLen])
      have hml := W1.fl.lt
      have hs1 := W1.bel.size
      have hs3 := f3.size
      have hm3 := i3.lt
      have gl : (lanesF f.C (i + 1)).getLast? = some (i : Int) := by rw [hsucc]; simp
      rw [IntWalk.i64_in _ (by omega)]
      refine ⟨⟨i + 1, some ⟨w3.heap.size, 0, none⟩, 1, ?_, by omega, ⟨(W1.fl.fr f3 (by omega)).fr fa fun h => h, ⟨_, ?_, i3.fr fa fun h => h⟩, ?_, rfl, W1.bel.trans' ((f3.bel fun k e => by have e : k = _ := e; omega).trans' fa.bel0)⟩⟩, by dsimp only; omega⟩
      · rw [gl]; rfl
      · show (lanesF f.C i).length + 1 ≤ 100000
        omega
      · show Own _ 3 1 _ _ ((lanesF f.C (i + 1)).getLast?.toList).length 1 (ints ((lanesF f.C (i + 1)).getLast?.toList))
        rw [gl]
        exact lit.mono fun k _ e => by have e : k = w3.heap.size := e; omega
    · have h2' : kdF f.C i ≠ 2 := by rw [hk]; exact h2
      rw [if_neg h2', List.append_nil] at hsucc
      refine cF (decide_eq_false (by omega)) ?_
      rw [IntWalk.i64_in _ (by omega)]
      exact ⟨⟨i + 1, A, c, by rw [hsucc]; rfl, by omega, by rw [hsucc]; exact W1⟩, by dsimp only; omega⟩
  · have hi' : i = f.C.size := by omega
    subst hi'
    cases hgl : (lanesF f.C f.C.size).getLast? with
    | none =>
      rw [hgl] at W1
      refine cT rfl ⟨?_, W1.bel.top⟩
      unfold joinedV; rw [hgl]
    | some x =>
      rw [hgl] at W1
      have hxl : x ∈ lanesF f.C f.C.size := List.mem_of_getLast? hgl
      have hxb := lanesF_mem hxl
      refine cF rfl ?_
      obtain ⟨a, ha, hc0⟩ := rd_int W1.row.rd (i := 0) (x := x) rfl
      have hr : IntKind.i64.min ≤ x ∧ x ≤ IntKind.i64.max := by simp [IntKind.min, IntKind.max, IntKind.bits, IntKind.signed]; omega
      obtain ⟨n, hn, im⟩ := W1.mp
      obtain ⟨w2, r2, i2, f2⟩ := im.delete uInt uMb hr 0
      have e1 : lf (lanesF f.C f.C.size) x = some (.bool true) := if_pos hxl
      rw [e1, lf_del (lanesF_nodup _ _)] at i2
      have hml := W1.fl.lt
      have hs1 := W1.bel.size
      have el : ((lanesF f.C f.C.size).erase x).length = (lanesF f.C f.C.size).length - 1 := List.length_erase_of_mem hxl
      have W2 : JW w w2 f (w.heap.size + 1) (jInit f.C x) A c := by
        refine ⟨W1.fl.fr f2 (by omega), ⟨n, hn, ?_⟩, W1.row.fr f2 fun k _ hk e => by have e : k = w.heap.size + 1 := e; omega, rfl, W1.bel.trans' (f2.bel fun k e => by have e : k = w.heap.size + 1 := e; omega)⟩
        show IM w2 Tryd.prog 3 (w.heap.size + 1) n ((lanesF f.C f.C.size).erase x).length (lf ((lanesF f.C f.C.size).erase x))
        rw [el]; simpa using i2
      have hlen := lanesF_len f.C f.C.size
      have O2 : JOk f.C.size (jInit f.C x) := by
        refine ⟨(lanesF_nodup _ _).erase _, fun y hy => lanesF_mem (List.mem_of_mem_erase hy), fun y hy => ?_, ?_⟩
        · have hy : y ∈ [x] := hy
          rw [List.mem_singleton] at hy; subst hy; exact hxb
        · show 2 * ((lanesF f.C f.C.size).erase x).length + 1 ≤ _
          omega
      refine ⟨a, ha, by omega, by show (0 : Int) < ((1 : Nat) : Int); omega, x, hc0, w2, r2, ?_⟩
      refine ⟨fun s w' => ∃ (k : Nat) (st : JS) (A : Option Addr) (c : Nat), s = ((A, st.2.length, c), ()) ∧ st = itr (jstep f) k (jInit f.C x) ∧ k + meas st ≤ 2 * f.C.size + 2 ∧ JOk f.C.size st ∧ JW w w' f (w.heap.size + 1) st A c, fun s w' => 2 * mlen w' (w.heap.size + 1) + s.1.2.1, ?_, ?_⟩
      · exact ⟨0, jInit f.C x, A, c, rfl, rfl, by have := O2.2.2.2; omega, O2, W2⟩
      · rintro J s w3 ⟨k, st, A, c, rfl, hst, hk, O3, W3⟩
        dsimp only
        have hm3 := W3.mlen
        have hml := O3.2.2.2
        have hl3 : st.2.length ≤ 600 := by simp only [meas] at hml; omega
        refine cD (fun hlt => ?_) (fun hlt => ?_)
        · have hne : st.2 ≠ [] := by intro e; rw [e] at hlt; simp at hlt
          obtain ⟨cell, hcell⟩ : ∃ cell, st.2.getLast? = some cell := ⟨_, List.getLast?_eq_some_getLast hne⟩
          obtain ⟨hg, hpos⟩ := last_get hcell
          have ej : jstep f st = (besideF f cell).foldl jb (st.1, st.2.dropLast) := by unfold jstep; rw [hcell]
          have hcb := O3.2.2.1 cell (List.mem_of_getLast? hcell)
          obtain ⟨a, ha, hc3⟩ := rd_int W3.row.rd hg
          unfold S46_k5
          have ew : IntKind.i64.wrap ((st.2.length : Int) - 1) = ((st.2.length - 1 : Nat) : Int) := by rw [IntWalk.i64_in _ (by omega)]; omega
          rw [ew]
          have hle := W3.row.le
          refine ⟨a, ha, by omega, by omega, cell, hc3, by omega, by omega, _, W3.fl.cell 0, _, W3.fl.cell 1, _, W3.fl.cell 2, ?_⟩
          refine (beside_ok hs (cell := cell) ⟨hcb.1, by omega⟩ w3).use ?_
          rintro v w4 ⟨A4, c4, rfl, o4, f4⟩
          rw [slAddr_zero, Nat.sub_zero, Nat.sub_zero, Int.toNat_natCast]
          have ed : st.2.dropLast.length = st.2.length - 1 := by simp
          have Wd : JW w w4 f (w.heap.size + 1) (st.1, st.2.dropLast) A c := by
            have W4 := W3.fr0 f4
            refine ⟨W4.fl, W4.mp, ?_, rfl, W4.bel⟩
            show Own w4 3 1 _ A st.2.dropLast.length c (ints st.2.dropLast)
            have := W4.row.take (n := st.2.length - 1) (by omega)
            have e : (ints st.2).take ((st.2.length - 1) * 1) = ints st.2.dropLast := by
              rw [Nat.mul_one, List.dropLast_eq_take]; unfold ints; rw [List.map_take]
            rw [e] at this
            rw [ed]; exact this
          have Od : JOk f.C.size (st.1, st.2.dropLast) := ⟨O3.1, O3.2.1, fun x hx => O3.2.2.1 x (List.dropLast_subset _ hx), by simp only [meas] at hml ⊢; omega⟩
          have hb4 := beside_len f cell
          refine ⟨_, _, _, rfl, fun s w' => ∃ (j : Nat) (A : Option Addr) (c : Nat), s = ((A, (((besideF f cell).take j).foldl jb (st.1, st.2.dropLast)).2.length, c), (j : Int), ()) ∧ j ≤ (besideF f cell).length ∧ Rd w' (fun k => w3.heap.size ≤ k ∧ k < w4.heap.size) A4 (ints (besideF f cell)) ∧ (∀ k, ownAt A k → k < w3.heap.size ∨ w4.heap.size ≤ k) ∧ w4.heap.size ≤ w'.heap.size ∧ JW w w' f (w.heap.size + 1) (((besideF f cell).take j).foldl jb (st.1, st.2.dropLast)) A c, fun s _ => (besideF f cell).length - s.2.1.toNat, ?_, ?_⟩
          · refine ⟨0, A, c, ?_, Nat.zero_le _, o4.rd.mono fun k hk h => ⟨h, hk⟩, fun k ⟨a, ha, e⟩ => .inl (e ▸ (W3.row.has a ha).2), Nat.le_refl _, Wd⟩
            rw [List.take_zero]
            show ((A, st.2.length - 1, c), ((0 : Int), ())) = ((A, st.2.dropLast.length, c), ((0 : Nat) : Int), ())
            rw [ed]; rfl
          · rintro J s w5 ⟨j, A5, c5, rfl, hj, hr5, hA5, hs5, W5⟩
            dsimp only
            have Oj := jbs_ok ((besideF f cell).take j) Od
            have hmj := Oj.2.2.2
            refine cD (fun hlt5 => ?_) (fun hlt5 => ?_)
            · have hj' : j < (besideF f cell).length := by omega
              have hx : (besideF f cell)[j]? = some (besideF f cell)[j] := List.getElem?_eq_getElem hj'
              have hbb := beside_bound hs (List.getElem_mem hj')
              generalize (besideF f cell)[j] = b at hx hbb
              have et : ((besideF f cell).take (j + 1)).foldl jb (st.1, st.2.dropLast) = jb (((besideF f cell).take j).foldl jb (st.1, st.2.dropLast)) b := by
                rw [List.take_add_one, hx, List.foldl_append]; rfl
              obtain ⟨a5, ha5, hc5⟩ := rd_int hr5 hx
              obtain ⟨v, lk, hv⟩ := join_b W5 Oj hC (by simp only [meas] at hmj; omega) (b := b) (by omega)
              refine ⟨a5, ha5, by omega, by omega, b, hc5, v, w5, lk, cB (fun e => ?_) (fun e => ?_)⟩
              · rw [e, if_pos rfl] at hv
                obtain ⟨w6, r6, A7, c7, w7, r7, W7, f7, q7⟩ := hv
                refine ⟨w6, r6, A7, _, c7, w7, r7, ?_⟩
                rw [IntWalk.i64_in _ (by omega)]
                rw [← et] at W7 ⊢
                refine ⟨⟨j + 1, A7, c7, rfl, by omega, hr5.fr f7 fun k _ hk h => ?_, fun k hk => ?_, Nat.le_trans hs5 f7.size, W7⟩, by dsimp only; omega⟩
                · have hf3 := W3.fl.lt
                  have hm3' := W3.mp.choose_spec.2.lt
                  rcases h with h | h
                  · omega
                  · have := hA5 k h; omega
                · rcases q7 k hk with h | h
                  · exact hA5 k h
                  · right; omega
              · rw [e, if_neg (by simp)] at hv
                rw [IntWalk.i64_in _ (by omega)]
                refine ⟨⟨j + 1, A5, c5, by rw [et, hv]; rfl, by omega, hr5, hA5, hs5, by rw [et, hv]; exact W5⟩, by dsimp only; omega⟩
            · have ejl : j = (besideF f cell).length := by omega
              subst ejl
              rw [List.take_length, ← ej] at *
              have hjm := jstep_meas f hne
              have hm5 := W5.mlen
              refine ⟨⟨k + 1, jstep f st, A5, c5, rfl, by rw [itr_succ, ← hst], by omega, Oj, W5⟩, ?_⟩
              dsimp only
              rw [hm3, hm5]
              simp only [meas] at hjm
              omega
        · have hnil : st.2 = [] := List.eq_nil_of_length_eq_zero (by omega)
          obtain ⟨n, hn, im⟩ := W3.mp
          refine ⟨_, w3, im.len uMb 3, ?_, W3.bel.top⟩
          have efin : itr (jstep f) (2 * f.C.size + 2) (jInit f.C x) = st := by
            have : 2 * f.C.size + 2 = k + (2 * f.C.size + 2 - k) := by omega
            rw [this, itr_add, ← hst]
            exact itr_fix (jstep_fix f hnil) _
          have eV : joinedV f = decide (st.1 = []) := by
            unfold joinedV; rw [hgl]; dsimp only; rw [efin]
          rw [eV]
          congr 1
          rw [decide_eq_decide]
          constructor
          · intro h; exact List.eq_nil_of_length_eq_zero (by omega)
          · intro h; rw [h]; rfl
end Go.Proofs
