/- TopFree: the whole of it. -/
import Derived.Test.YtmhjjhpgbafjpaaDoorTfCfree
set_option linter.unusedVariables false
set_option maxRecDepth 100000
namespace Go.Proofs
open Go Go.Eng
section
variable {W w w' : World} {F : Fl} {ab bb fb t P1 P0 X : Nat} {bv : List Value} {n n' : Nat} {tf tf' : Int → List Wn} {was p : List (Int × Int)} {A Ap : Option Addr} {af aas at_ bf bs bt : Int}
theorem free_k3 (hF : FOk F) (ha : Blk w ab 23 [.int .i64 af, .int .i64 at_, .int .i64 aas]) (hb : Blk w bb 23 [.int .i64 bf, .int .i64 bt, .int .i64 bs]) (hf : Blk w fb 25 (fcell F)) (hlt : bb < P1 ∧ fb < P1) (hP : P1 ≤ w.heap.size) (hW : W.heap.size ≤ P1) {cof : Nat → Int} (T : Tab w (from1 P1) cof t 2 (fun _ => [])) (g : Bel W.heap.size W w) (hsa : 0 ≤ aas ∧ aas ≤ 1000) (hsb : 0 ≤ bs ∧ bs ≤ 1000) :
    S3_k3 ⟨ab, 0, none⟩ ⟨bb, 0, none⟩ ⟨fb, 0, none⟩ (some ⟨t, 0, none⟩) w (fun v w' => v = .bool true ∧ Fr none1 W w') := by
  have pin := plan_in F af aas at_ hsa.2
  have hC := hF.1
  refine ⟨_, hf.cell 0, _, by rw [add_g]; exact hf.cell 1, _, by rw [add_g]; exact hf.cell 2, _, hb.cell 0, _, by rw [add_g]; exact hb.cell 2, _, by rw [add_g]; exact hb.cell 1, ?_⟩
  refine (plan_ok hF T (fun _ => rfl) hsb bf bt).use ?_
  rintro v w1 ⟨A1, c1, rfl, o1, f1⟩
  have a1 := ha.fr f1 fun h => h
  have b1 := hb.fr f1 fun h => h
  have fl1 := hf.fr f1 fun h => h
  have T1 := (T.mono (ok' := fun k => P1 ≤ k ∧ k < w.heap.size) fun k hk h => ⟨h, hk⟩).fr f1 fun _ _ _ h => h
  refine ⟨_, _, _, _, rfl, _, fl1.cell 0, _, by rw [add_g]; exact fl1.cell 1, _, by rw [add_g]; exact fl1.cell 2, _, a1.cell 0, _, by rw [add_g]; exact a1.cell 2, _, by rw [add_g]; exact a1.cell 1, ?_⟩
  refine (plan_ok hF T1 (fun _ => rfl) hsa af at_).use ?_
  rintro v w2 ⟨A2, c2, rfl, o2, f2⟩
  have I2 : FS W w2 F bb fb t P1 w.heap.size w2.heap.size [.int .i64 bf, .int .i64 bt, .int .i64 bs] 2 (tkF []) (planV F bf bs bt).1 (planV F af aas at_).1 A1 A2 := by
    refine ⟨b1.fr f2 fun h => h, fl1.fr f2 fun h => h, ⟨hlt.1, hlt.2, hP, Nat.le_trans f1.size f2.size⟩, ⟨cof, (T1.fr f2 fun _ _ _ h => h).mono fun k _ h => .inl h⟩, ?_, o2.rd.mono fun k hk h => ⟨Nat.le_trans f1.size h, hk⟩, ⟨hW, Nat.le_refl _⟩, g.trans' (f1.trans' f2).bel0⟩
    exact (o1.rd.fr f2 fun _ _ _ h => h).mono fun k hk h => ⟨h, hk⟩
  generalize hwas : (planV F bf bs bt).1 = was at I2 ⊢
  generalize (planV F af aas at_).1 = p at I2 pin ⊢
  generalize w2.heap.size = X at I2
  generalize w.heap.size = P0 at I2
  have hr : ∀ x ∈ p, (0 ≤ x.1 ∧ x.1 < 1000) ∧ 0 ≤ x.2 ∧ x.2 ≤ 100000 := fun x hx => by have := pin.2.1 x hx; omega
  refine ⟨_, _, _, _, rfl, fun s' w' => ∃ i : Nat, s' = ((i : Int), ()) ∧ i ≤ p.length ∧ FS W w' F bb fb t P1 P0 X [.int .i64 bf, .int .i64 bt, .int .i64 bs] (2 + i) (tkF (p.take i)) was p A1 A2, fun s' _ => p.length - s'.1.toNat, ⟨0, rfl, Nat.zero_le _, I2⟩, ?_⟩
  rintro J s' w3 ⟨i, rfl, hi, I3⟩
  dsimp only
  refine cD (fun hlt3 => ?_) (fun hlt3 => ?_)
  · have hi' : i < p.length := by omega
    have hx : p[i]? = some p[i] := List.getElem?_eq_getElem hi'
    have et : p.take (i + 1) = p.take i ++ [p[i]] := by rw [List.take_add_one, hx]; rfl
    have hm := hr _ (List.getElem_mem hi')
    have hpre : ∀ y ∈ p.take i, y.2 < (p[i]).2 := fun y hy => by
      obtain ⟨j, hj, e⟩ := List.getElem_of_mem hy
      rw [List.length_take] at hj
      rw [List.getElem_take] at e
      rw [← e]
      exact List.pairwise_iff_getElem.1 pin.2.2 j i (by omega) hi' (by omega)
    generalize p[i] = x at hx et hm hpre
    have htl : (tkF (p.take i) x.1).length ≤ 1000 := by have := tkF_len (p.take i) x.1; rw [List.length_take] at this; omega
    refine free_k5 I3 (by omega) hx hm ⟨by omega, fun y hy => ?_⟩ (by omega) fun w4 I4 => ?_
    · unfold tkF at hy
      obtain ⟨z, hz, e⟩ := List.mem_map.1 hy
      have := hpre z (List.mem_filter.1 hz).1
      rw [← e]
      dsimp only
      omega
    · rw [tkF_app, ← et] at I4
      exact ⟨⟨i + 1, rfl, by omega, I4⟩, by dsimp only; omega⟩
  · have e : i = p.length := by omega
    subst e
    rw [List.take_length] at I3
    exact free_k6 hF I3 hsb hwas.symm (by omega) ⟨pin.1, hr⟩
theorem free_k1 (hF : FOk F) (ha : Blk w ab 23 [.int .i64 af, .int .i64 at_, .int .i64 aas]) (hb : Blk w bb 23 [.int .i64 bf, .int .i64 bt, .int .i64 bs]) (hf : Blk w fb 25 (fcell F)) (hlt : bb < P1 ∧ fb < P1) (hP : P1 ≤ w.heap.size) (hW : W.heap.size ≤ P1) {cof : Nat → Int} (T : Tab w (from1 P1) cof t 2 (fun _ => [])) (g : Bel W.heap.size W w) :
    S3_k1 ⟨ab, 0, none⟩ ⟨bb, 0, none⟩ ⟨fb, 0, none⟩ (some ⟨t, 0, none⟩) w (fun v w' => v = .bool true ∧ Fr none1 W w') := by
  have yes : S3_k2 ⟨ab, 0, none⟩ ⟨bb, 0, none⟩ ⟨fb, 0, none⟩ (some ⟨t, 0, none⟩) true w (fun v w' => v = .bool true ∧ Fr none1 W w') := cT rfl ⟨rfl, g.top⟩
  refine ⟨aas, by rw [add_g]; exact ha.cell 2, cD (fun _ => yes) fun h1 => ⟨aas, by rw [add_g]; exact ha.cell 2, cD (fun _ => yes) fun h2 => ⟨bs, by rw [add_g]; exact hb.cell 2, cD (fun _ => yes) fun h3 => ⟨bs, by rw [add_g]; exact hb.cell 2, ?_⟩⟩⟩⟩
  exact cD (fun _ => ⟨rfl, g.top⟩) fun h4 => free_k3 hF ha hb hf hlt hP hW T g ⟨by omega, by omega⟩ ⟨by omega, by omega⟩
theorem free_ok (tx : ByteArray) (af at_ aas bf bt bs : Int) {m : Int} (hm : w.cell? ⟨0, 0, none⟩ = some (.int .i64 m)) (hw : 0 < w.heap.size) : Ret Tryd.prog 3 [.string tx, .agg ⟨[.int .i64 af, .int .i64 at_, .int .i64 aas]⟩, .agg ⟨[.int .i64 bf, .int .i64 bt, .int .i64 bs]⟩] w fun v w' => v = .bool true ∧ Fr none1 w w' := by
  apply S3_calls
  have fa : Fr none1 w (w.alloc (.cells ⟨[.int .i64 af, .int .i64 at_, .int .i64 aas]⟩ 23)) := Fr.alloc _ _
  have fb : Fr none1 _ ((w.alloc (.cells ⟨[.int .i64 af, .int .i64 at_, .int .i64 aas]⟩ 23)).alloc (.cells ⟨[.int .i64 bf, .int .i64 bt, .int .i64 bs]⟩ 23)) := Fr.alloc _ _
  have ba := (Blk.new w 23 [.int .i64 af, .int .i64 at_, .int .i64 aas]).fr fb fun h => h
  have bb := Blk.new (w.alloc (.cells ⟨[.int .i64 af, .int .i64 at_, .int .i64 aas]⟩ 23)) 23 [.int .i64 bf, .int .i64 bt, .int .i64 bs]
  have f0 := fa.trans' fb
  unfold S3
  generalize (w.alloc (.cells ⟨[.int .i64 af, .int .i64 at_, .int .i64 aas]⟩ 23)).heap.size = B at bb ⊢
  generalize (w.alloc (.cells ⟨[.int .i64 af, .int .i64 at_, .int .i64 aas]⟩ 23)).alloc (.cells ⟨[.int .i64 bf, .int .i64 bt, .int .i64 bs]⟩ 23) = w1 at ba bb f0 ⊢
  have hm1 : w1.cell? ⟨0, 0, none⟩ = some (.int .i64 m) := by
    rw [← hm]
    unfold World.cell?
    rw [f0.block 0 hw fun h => h]
  refine (floors_ok tx hm1 (Nat.lt_of_lt_of_le hw f0.size)).use ?_
  rintro v w2 ⟨rfl, f2⟩
  have hfl := floors_fine tx
  generalize floorsF tx = F at hfl ⊢
  obtain ⟨p1, p2, p3, p4, p5, p6, b3, f3⟩ := cp3 w2 25 (.int .i64 0) (.int .i64 0) (.string eB) (.int .i64 F.W) (.int .i64 F.H) (.string F.C)
  refine ⟨_, _, _, true, rfl, p1, p2, p3, p4, p5, p6, ?_⟩
  have f23 := f2.trans' f3
  have ba3 := ba.fr f23 fun h => h
  have bb3 := bb.fr f23 fun h => h
  have f03 := f0.trans' f23
  generalize World.setCell _ _ _ = w3 at b3 f03 ba3 bb3 ⊢
  generalize w2.heap.size = fb at b3 ⊢
  refine (wnew_ok w3).use ?_
  rintro v w4 ⟨t, rfl, T4, f4⟩
  have e1 : updF (fun _ => ([] : List Wn)) 0 ([] ++ [(5, 6)]) 0 = (5, 6) :: [] := updF_same _ _ _
  have e2 : updF (updF (fun _ => ([] : List Wn)) 0 ([] ++ [(5, 6)])) 0 [] = fun _ => [] := by
    funext c
    by_cases h : c = 0
    · subst h; exact updF_same _ _ _
    · rw [updF_other _ _ h, updF_other _ _ h]
  refine ⟨_, rfl, cF rfl (cF rfl ?_)⟩
  refine (wtake_ok T4 (cell := 0) (i64r_of (by omega)) (by simp) (by omega) (x := (5, 6)) (by decide) (by simp)).use ?_
  rintro v w5 ⟨rfl, cof5, T5, f5⟩
  refine ⟨_, rfl, cF rfl ?_⟩
  refine (wdrop_ok T5 (cell := 0) (i64r_of (by omega)) (by omega) (x := (5, 6)) e1 (by rw [e1]; simp)).use ?_
  rintro v w6 ⟨rfl, cof6, T6, f6⟩
  rw [e2] at T6
  refine ⟨_, rfl, cF rfl ?_⟩
  have s4 := f4.size
  have s5 := f5.size
  have s6 := f6.size
  have s03 := f03.size
  have f46 : Bel w3.heap.size w3 w6 := f4.bel0.trans' ((f5.bel fun k h => h).trans' (f6.bel fun k h => h.elim (fun h => h) fun h => by omega))
  have fr := f46.top
  exact free_k1 hfl.1 (ba3.fr fr fun h => h) (bb3.fr fr fun h => h) (b3.fr fr fun h => h) ⟨bb3.lt, b3.lt⟩ (by omega) s03 (T6.mono fun k _ h => by
    rcases h with (h | h) | h
    · exact h
    · show w3.heap.size ≤ k; omega
    · show w3.heap.size ≤ k; omega) (f03.bel0.trans' fr.bel0)
end
end Go.Proofs
