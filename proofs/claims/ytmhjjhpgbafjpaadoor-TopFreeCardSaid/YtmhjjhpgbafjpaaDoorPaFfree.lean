/- Floors: the floor that is tried. -/
import Derived.Test.YtmhjjhpgbafjpaaDoorPaEfree
set_option linter.unusedVariables false
set_option maxRecDepth 100000
namespace Go.Proofs
open Go Go.Eng
def cutB (t : ByteArray) : ByteArray := ByteArray.extract t 0 (Int.toNat (if 60 < ((ByteArray.size t : Nat) : Int) then 60 else ((ByteArray.size t : Nat) : Int)))
theorem cutB_le (t : ByteArray) : (cutB t).size ≤ 1000 := by
  unfold cutB
  rw [ByteArray.size_extract]
  split <;> omega
def floorsF (t : ByteArray) : Fl := if (parseV (cutB t)).2 = 0 then (parseV (cutB t)).1 else dfl
theorem floors_fine (t : ByteArray) : FOk (floorsF t) ∧ rightF (floorsF t) = true ∧ 0 < (floorsF t).C.size := by
  unfold floorsF
  split
  · rename_i h
    exact parse_fine (s := cutB t) (by rw [← h])
  · exact parse_fine dflt_ok
section
variable {W w : World}
theorem floors_k0 {tb fb : Nat} {F : Fl} {x0 x1 x2 : Value} (ht : Blk w tb 25 [x0, x1, x2]) (hf : Blk w fb 25 (fcell F)) (hne : fb ≠ tb) (hF : 0 < F.C.size) (htW : W.heap.size ≤ tb) (f : Fr none1 W w) : S4_k0 ⟨tb, 0, none⟩ ⟨fb, 0, none⟩ 0 w (fun v w' => v = .tuple ⟨[fval F, .bool true]⟩ ∧ Fr none1 W w') := by
  unfold S4_k0
  have fd := Fr.drew (F := none1) w
  have t0 := ht.fr fd fun h => h
  have f0 := hf.fr fd fun h => h
  have g0 := f.trans' fd
  generalize w.drew = W0 at t0 f0 g0 ⊢
  obtain ⟨⟨u1, z1, u2, z2, u3, z3⟩, ⟨d0, d1, d2⟩, b3, f3⟩ := wr3b t0 (.int .i64 F.W) (.int .i64 F.H) (.string F.C) _ rfl
  have c0 := f0.cell 0
  have c1 : W0.cell? ((⟨fb, 0, none⟩ : Addr).add 1) = some (.int .i64 F.H) := by rw [add_g]; exact f0.cell 1
  have c2 : W0.cell? ((⟨fb, 0, none⟩ : Addr).add 2) = some (.string F.C) := by rw [add_g]; exact f0.cell 2
  have ff := f0.fr f3 hne
  have c2' : (((W0.setCell ⟨tb, 0, none⟩ (.int .i64 F.W)).setCell ((⟨tb, 0, none⟩ : Addr).add 1) (.int .i64 F.H)).setCell ((⟨tb, 0, none⟩ : Addr).add 2) (.string F.C)).cell? ((⟨fb, 0, none⟩ : Addr).add 2) = some (.string F.C) := by rw [add_g fb 2]; exact ff.cell 2
  have top : Fr none1 W (((W0.setCell ⟨tb, 0, none⟩ (.int .i64 F.W)).setCell ((⟨tb, 0, none⟩ : Addr).add 1) (.int .i64 F.H)).setCell ((⟨tb, 0, none⟩ : Addr).add 2) (.string F.C)) := g0.trans f3 fun k hk e => by have e : k = tb := e; omega
  have hR : (Value.tuple ⟨[.agg ⟨[.int .i64 F.W, .int .i64 F.H, .string F.C]⟩, .bool (decide ((0 : Int) < ((ByteArray.size F.C : Nat) : Int)))]⟩ = .tuple ⟨[fval F, .bool true]⟩) := by rw [decide_eq_true (by omega)]; rfl
  generalize hW3 : ((W0.setCell ⟨tb, 0, none⟩ (.int .i64 F.W)).setCell ((⟨tb, 0, none⟩ : Addr).add 1) (.int .i64 F.H)).setCell ((⟨tb, 0, none⟩ : Addr).add 2) (.string F.C) = W3 at d0 d1 d2 c2' top
  refine cT rfl ⟨⟨_, c0, _, c1, _, c2, ⟨_, c2, u1, z1, u2, z2, u3, z3, ?_⟩, ⟨u1, z1, u2, z2, u3, z3, ?_⟩⟩, ⟨_, c2, _, c0, _, c1, _, c2, u1, z1, u2, z2, u3, z3, ?_⟩⟩
  · rw [hW3]; exact ⟨_, d0, _, d1, _, d2, hR, top⟩
  · rw [hW3]; exact ⟨_, c2', _, d0, _, d1, _, d2, hR, top⟩
  · rw [hW3]; exact ⟨_, d0, _, d1, _, d2, hR, top⟩
theorem floors_ok (t : ByteArray) {m : Int} (hm : w.cell? ⟨0, 0, none⟩ = some (.int .i64 m)) (hw : 0 < w.heap.size) : Ret Tryd.prog 4 [.string t] w fun v w' => v = .tuple ⟨[fval (floorsF t), .bool true]⟩ ∧ Fr none1 w w' := by
  apply S4_calls
  have f0 : Fr none1 w (w.alloc (.cells ⟨fcell noFl⟩ 25)) := Fr.alloc _ _
  have b0 := Blk.new w 25 (fcell noFl)
  have hmf : ∀ {w'}, Fr none1 w w' → w'.cell? ⟨0, 0, none⟩ = some (.int .i64 m) ∧ 0 < w'.heap.size := fun f => ⟨by
    rw [← hm]
    unfold World.cell?
    rw [f.block 0 hw fun h => h], Nat.lt_of_lt_of_le hw f.size⟩
  refine ⟨by split <;> omega, by split <;> omega, ?_⟩
  refine (parse_ok (cutB t) (cutB_le t) (hmf f0).1 (hmf f0).2).use ?_
  rintro v w1 ⟨⟨k, rfl⟩, f1⟩
  have hfl := floors_fine t
  have eF : floorsF t = if (parseV (cutB t)).2 = 0 then (parseV (cutB t)).1 else dfl := rfl
  generalize floorsF t = G at hfl eF ⊢
  generalize parseV (cutB t) = p at eF ⊢
  obtain ⟨F, e⟩ := p
  dsimp only at eF
  have b1 := b0.fr f1 fun h => h
  have f01 := f0.trans' f1
  have hb1 := b1.lt
  obtain ⟨p1, p2, p3, p4, p5, p6, b2, f2⟩ := cp3 w1 25 (.int .i64 0) (.int .i64 0) (.string eB) (.int .i64 F.W) (.int .i64 F.H) (.string F.C)
  refine ⟨_, _, _, k, _, rfl, p1, p2, p3, p4, p5, p6, ?_⟩
  have f02 := f01.trans' f2
  have t2 := b1.fr f2 fun h => h
  by_cases h0 : e = 0
  · rw [if_pos h0] at eF
    subst eF h0
    exact cF rfl (floors_k0 t2 b2 (by omega) hfl.2.2 (Nat.le_refl _) f02)
  · rw [if_neg h0] at eF
    subst eF
    refine cT (by rw [decide_eq_false h0]; rfl) ?_
    generalize World.setCell _ _ _ = w2 at b2 t2 f02 ⊢
    refine (parse_ok dflt (by decide) (hmf f02).1 (hmf f02).2).use ?_
    rintro v w3 ⟨⟨k3, rfl⟩, f3⟩
    have b3 := b2.fr f3 fun h => h
    have t3 := t2.fr f3 fun h => h
    have f03 := f02.trans' f3
    obtain ⟨⟨u1, z1, u2, z2, u3, z3⟩, _, b4, f4⟩ := wr3b b3 (.int .i64 dfl.W) (.int .i64 dfl.H) (.string dfl.C) _ rfl
    have t4 := t3.fr f4 (by omega)
    rw [dflt_ok]
    refine ⟨_, _, _, k3, _, rfl, u1, z1, u2, z2, u3, z3, ?_⟩
    exact floors_k0 t4 b4 (by omega) hfl.2.2 (Nat.le_refl _) (f03.trans f4 fun k hk e => by have e : k = w1.heap.size := e; omega)
end
end Go.Proofs
