/- TopNoted: records on a disk whose power fails. -/
import Derived.Test.YtmhjjhpgbafjpaaJnTtop
import Derived.Test.YtmhjjhpgbafjpaaRcKtop
import Derived.Test.YtmhjjhpgbafjpaaHp5
set_option linter.unusedVariables false
set_option maxRecDepth 100000
namespace Go.Eng
open Go
theorem Blk.wr7 {w : World} {b : Nat} {t : TypeId} {x0 x1 x2 x3 x4 x5 x6 : Value} (h : Blk w b t [x0, x1, x2, x3, x4, x5, x6]) (y0 y1 y2 y3 y4 y5 y6 : Value) :
    ((∃ u, w.cell? ⟨b, 0, none⟩ = some u) ∧ w.frozen? ⟨b, 0, none⟩ = false) ∧
    ((∃ u, (w.setCell ⟨b, 0, none⟩ y0).cell? ⟨b, 1, none⟩ = some u) ∧ (w.setCell ⟨b, 0, none⟩ y0).frozen? ⟨b, 1, none⟩ = false) ∧
    ((∃ u, ((w.setCell ⟨b, 0, none⟩ y0).setCell ⟨b, 1, none⟩ y1).cell? ⟨b, 2, none⟩ = some u) ∧ ((w.setCell ⟨b, 0, none⟩ y0).setCell ⟨b, 1, none⟩ y1).frozen? ⟨b, 2, none⟩ = false) ∧
    ((∃ u, (((w.setCell ⟨b, 0, none⟩ y0).setCell ⟨b, 1, none⟩ y1).setCell ⟨b, 2, none⟩ y2).cell? ⟨b, 3, none⟩ = some u) ∧ (((w.setCell ⟨b, 0, none⟩ y0).setCell ⟨b, 1, none⟩ y1).setCell ⟨b, 2, none⟩ y2).frozen? ⟨b, 3, none⟩ = false) ∧
    ((∃ u, ((((w.setCell ⟨b, 0, none⟩ y0).setCell ⟨b, 1, none⟩ y1).setCell ⟨b, 2, none⟩ y2).setCell ⟨b, 3, none⟩ y3).cell? ⟨b, 4, none⟩ = some u) ∧ ((((w.setCell ⟨b, 0, none⟩ y0).setCell ⟨b, 1, none⟩ y1).setCell ⟨b, 2, none⟩ y2).setCell ⟨b, 3, none⟩ y3).frozen? ⟨b, 4, none⟩ = false) ∧
    ((∃ u, (((((w.setCell ⟨b, 0, none⟩ y0).setCell ⟨b, 1, none⟩ y1).setCell ⟨b, 2, none⟩ y2).setCell ⟨b, 3, none⟩ y3).setCell ⟨b, 4, none⟩ y4).cell? ⟨b, 5, none⟩ = some u) ∧ (((((w.setCell ⟨b, 0, none⟩ y0).setCell ⟨b, 1, none⟩ y1).setCell ⟨b, 2, none⟩ y2).setCell ⟨b, 3, none⟩ y3).setCell ⟨b, 4, none⟩ y4).frozen? ⟨b, 5, none⟩ = false) ∧
    ((∃ u, ((((((w.setCell ⟨b, 0, none⟩ y0).setCell ⟨b, 1, none⟩ y1).setCell ⟨b, 2, none⟩ y2).setCell ⟨b, 3, none⟩ y3).setCell ⟨b, 4, none⟩ y4).setCell ⟨b, 5, none⟩ y5).cell? ⟨b, 6, none⟩ = some u) ∧ ((((((w.setCell ⟨b, 0, none⟩ y0).setCell ⟨b, 1, none⟩ y1).setCell ⟨b, 2, none⟩ y2).setCell ⟨b, 3, none⟩ y3).setCell ⟨b, 4, none⟩ y4).setCell ⟨b, 5, none⟩ y5).frozen? ⟨b, 6, none⟩ = false) ∧
    ∃ w', (((((((w.setCell ⟨b, 0, none⟩ y0).setCell ⟨b, 1, none⟩ y1).setCell ⟨b, 2, none⟩ y2).setCell ⟨b, 3, none⟩ y3).setCell ⟨b, 4, none⟩ y4).setCell ⟨b, 5, none⟩ y5).setCell ⟨b, 6, none⟩ y6) = w' ∧ Blk w' b t [y0, y1, y2, y3, y4, y5, y6] ∧ Fr (fun k => k = b) w w' := by
  have b1 := h.set 0 y0
  have b2 := b1.set 1 y1
  have b3 := b2.set 2 y2
  have b4 := b3.set 3 y3
  have b5 := b4.set 4 y4
  have b6 := b5.set 5 y5
  have b7 := b6.set 6 y6
  have f : ∀ (w : World) j u, Fr (fun k => k = b) w (w.setCell ⟨b, j, none⟩ u) := fun w j u => Fr.setCell (F := fun k => k = b) w rfl u
  exact ⟨⟨h.has 0 (by simp), h.free 0⟩, ⟨b1.has 1 (by simp), b1.free 1⟩, ⟨b2.has 2 (by simp), b2.free 2⟩, ⟨b3.has 3 (by simp), b3.free 3⟩, ⟨b4.has 4 (by simp), b4.free 4⟩, ⟨b5.has 5 (by simp), b5.free 5⟩, ⟨b6.has 6 (by simp), b6.free 6⟩, _, rfl, b7, (((((((f _ _ _).trans' (f _ _ _)).trans' (f _ _ _)).trans' (f _ _ _)).trans' (f _ _ _)).trans' (f _ _ _)).trans' (f _ _ _))⟩
end Go.Eng
namespace Go.Proofs
open Go Go.Eng
abbrev Nt := Rc × Bool
def ncell (x : Nt) : List Value := [.int .u8 x.1.k, .int .i64 x.1.i, .int .i64 x.1.r, .int .i64 x.1.p, .int .i64 x.1.c, .int .i64 x.1.q, .bool x.2]
def NtQ (w : World) (a : Addr) (x : Nt) : Prop := ∀ j v, (ncell x)[j]? = some v → w.cell? (a.add j) = some v
theorem Erc : ElT Try.prog 31 33 6 48 := elT_of (by kernel_rfl)
theorem rcell_len (x : Rc) : (rcell x).length = 6 := rfl
def lays (l : List Rc) : List Bs := l.map fun x => pk (rb x)
theorem lays_snoc (l : List Rc) (x : Rc) : lays (l ++ [x]) = lays l ++ [pk (rb x)] := by simp [lays]
theorem lays_len (l : List Rc) : (lays l).length = l.length := by simp [lays]
theorem pkrb_le {x : Rc} (h : right x) : (pk (rb x)).length ≤ 200 := by
  have := rb_le h
  rw [pk_length]; omega
theorem new_d {K : Nat → Prop} {B : Nat} {w : World} (hB : B ≤ w.heap.size) (hK : ∀ k, K k → k < w.heap.size) : Ret Try.prog 5 [] w fun v w' => ∃ d, v = .pointer (some ⟨d, 0, none⟩) ∧ DkK K B w' d ⟨[], 0, false, -1⟩ ∧ Fr none1 w w' ∧ B ≤ d :=
  (DkK.new hB hK).imp fun v w' ⟨h1, h2, h3⟩ => ⟨_, h1, h2, h3, hB⟩
theorem own_rec {w : World} {ok : Nat → Prop} {A : Option Addr} {c i l : Nat} {rs : List Rc} {x : Rc} (h : Own w 33 6 ok A l c (rws rcell rs)) (hx : rs[i]? = some x) : ∃ t, A = some t ∧ w.cell? (t.add (i * 6)) = some (.int .u8 x.k) ∧ w.cell? ((t.add (i * 6)).add 1) = some (.int .i64 x.i) ∧ w.cell? ((t.add (i * 6)).add 2) = some (.int .i64 x.r) ∧ w.cell? ((t.add (i * 6)).add 3) = some (.int .i64 x.p) ∧ w.cell? ((t.add (i * 6)).add 4) = some (.int .i64 x.c) ∧ w.cell? ((t.add (i * 6)).add 5) = some (.int .i64 x.q) := by
  have q : ∀ j (v : Value), j < 6 → (rcell x)[j]? = some v → ∃ t, A = some t ∧ w.cell? ((t.add (i * 6)).add j) = some v := fun j v hj hv => by
    have e := rws_get rcell_len hx (j := j) hj
    obtain ⟨t, ht, _, hc⟩ := h.rd.at (e.trans hv)
    exact ⟨t, ht, by rw [add_add]; exact hc⟩
  obtain ⟨t, ht, c0⟩ := q 0 _ (by decide) rfl
  obtain ⟨t1, ht1, c1⟩ := q 1 _ (by decide) rfl
  obtain ⟨t2, ht2, c2⟩ := q 2 _ (by decide) rfl
  obtain ⟨t3, ht3, c3⟩ := q 3 _ (by decide) rfl
  obtain ⟨t4, ht4, c4⟩ := q 4 _ (by decide) rfl
  obtain ⟨t5, ht5, c5⟩ := q 5 _ (by decide) rfl
  rw [ht] at ht1 ht2 ht3 ht4 ht5
  cases ht1; cases ht2; cases ht3; cases ht4; cases ht5
  rw [add_zero'] at c0
  exact ⟨t, ht, c0, c1, c2, c3, c4, c5⟩
section
variable {W w : World} {K KA : Nat → Prop} {B j d n c sf : Nat} {D : Dsk} {A : Option Addr} {rs : List Rc}
theorem noted_end (h : JnK K B w j d D n) (oA : Own w 33 6 KA A rs.length c (rws rcell rs)) (hAK : ∀ k, KA k → K k) (hDb : D.bs = frames (lays rs)) (hr : ∀ x ∈ rs, right x) (hsf : sf ≤ rs.length) (hDs : D.safe = (frames ((lays rs).take sf)).length) (hl : rs.length ≤ 60) (hB : B = W.heap.size) (g : Bel B W w) (keep : Int) :
    S3_k4 keep (some ⟨d, 0, none⟩) A rs.length c (sf : Int) w (Done W) := by
  have hsm : ∀ y ∈ lays rs, y.length ≤ 1000 := fun y hy => by
    obtain ⟨x, hx, rfl⟩ := List.mem_map.1 hy
    have := pkrb_le (hr x hx); omega
  have hfl := frames_le hsm
  rw [lays_len] at hfl
  refine (h.2.1.crash keep).use ?_
  rintro v w1 ⟨rfl, h1, f1⟩
  obtain ⟨m, hm1, hm2, hscan, hop⟩ := crash_found hDb hsm (by rw [lays_len]; exact hsf) hDs keep
  rw [lays_len] at hm2
  have hcl : (crD D keep).bs.length ≤ D.bs.length := by
    show (D.bs.take _).length ≤ _
    rw [List.length_take]; omega
  refine ⟨rfl, ?_⟩
  refine (jopen_ok h1 (live_crash D keep) (by rw [hDb] at hcl; omega)).use ?_
  rintro v w2 ⟨j2, hi2, A2, c2, rfl, fo, _, f2, _, _⟩
  have o1 := oA.fr f1 fun k _ hk ho => ho.2 (.inl (hAK k hk))
  have o2 := o1.fr f2 fun k _ hk ho => ho.2 (.inl (hAK k hk))
  simp only [hscan] at fo ⊢
  have hlm : ((lays rs).take m).length = m := by rw [List.length_take, lays_len]; omega
  rw [hlm]
  refine ⟨_, _, _, _, _, rfl, cF rfl (cF (decide_eq_false (by omega)) (cF (decide_eq_false (by omega)) ?_))⟩
  have g2 := g.trans' ((offK_bel f1).trans' (offK_bel f2))
  refine ⟨fun s w' => ∃ i : Nat, s.1 = (i : Int) ∧ i ≤ m ∧ Fr none1 w2 w', fun s _ => m - s.1.toNat, ⟨0, rfl, Nat.zero_le _, Fr.refl _ _⟩, ?_⟩
  rintro J ⟨i', ⟨⟩⟩ w3 ⟨i, hi, him, f3⟩
  dsimp only at hi ⊢
  subst hi
  refine cD (fun hlt => ?_) (fun hlt => ⟨rfl, by subst hB; exact (g2.trans' f3.bel0).top⟩)
  have hlt' : i < m := by have : (i : Int) < (m : Int) := hlt; omega
  have hx : rs[i]? = some rs[i] := List.getElem?_eq_getElem (by omega)
  have hrx := hr _ (List.mem_of_getElem? hx)
  generalize rs[i] = x at hx hrx
  have hy : ((lays rs).take m)[i]? = some (pk (rb x)) := by
    rw [List.getElem?_take, if_pos hlt', lays, List.getElem?_map, hx]; rfl
  have fo3 := fo.fr f3 fun _ _ _ h => h
  have o3 := o2.fr f3 fun _ _ _ h => h
  obtain ⟨a, Bq, cq, ha, hcell, hrd⟩ := fo3.rs.at hy
  refine ⟨a, ha, by omega, by omega, Bq, _, cq, hcell, ?_⟩
  have hpl := pkrb_le hrx
  have ht : Ret Try.prog 13 [.slice Bq (pk (rb x)).length cq] w3 fun v w' => v = .tuple ⟨[rval x, .int .i64 0]⟩ ∧ Fr none1 w3 w' := by
    have := take_ok (c := cq) hrd (by omega)
    unfold TakeP at this
    rw [take_lay hrx] at this
    exact this
  refine ht.use ?_
  rintro v w4 ⟨rfl, f4⟩
  obtain ⟨a0, a1, a2, a3, a4, a5, w5, e5, b5, f5⟩ := rstore w4 x
  refine ⟨_, _, _, _, _, _, _, rfl, a0.1, a0.2, a1.1, a1.2, a2.1, a2.2, a3.1, a3.2, a4.1, a4.2, a5.1, a5.2, ?_⟩
  rw [e5]
  have fd : Fr none1 w5 w5.drew := Fr.drew w5
  have f45 := f4.trans' (f5.trans' fd)
  have o5 := o3.fr f45 fun _ _ _ h => h
  have b6 := Blk.fr b5 fd fun h => h
  obtain ⟨t, ht, c0, c1, c2', c3, c4, c5⟩ := own_rec o5 hx
  refine cF rfl ⟨_, RcB.c0 b6, _, RcB.c1 b6, _, RcB.c2 b6, _, RcB.c3 b6, _, RcB.c4 b6, _, RcB.c5 b6, t, ht, by omega, by omega, _, c0, _, c1, _, c2', _, c3, _, c4, _, c5, _, _, rec_ne x x _ _ w5.drew, cF (by simp) ?_⟩
  rw [IntWalk.i64_in _ (by omega)]
  exact ⟨⟨i + 1, rfl, by omega, f3.trans' f45⟩, by dsimp only; omega⟩
end
/-- Between two notes. -/
def Noted (B : Nat) (w0 : World) (d n1 : Nat) (s : (Option Addr × Nat × Nat) × (Int) × (Int) × Unit) (w' : World) (j : Nat) : Prop :=
  ∃ (K KA : Nat → Prop) (i sf : Nat) (D : Dsk) (rs : List Rc), s.1.2.1 = rs.length ∧ s.2.1 = (sf : Int) ∧ s.2.2.1 = (i : Int) ∧ i ≤ n1 ∧ i ≤ 60 ∧ JnK K B w' j d D rs.length ∧ Own w' 33 6 KA s.1.1 rs.length s.1.2.2 (rws rcell rs) ∧ (∀ k, KA k → K k ∧ B ≤ k) ∧
    Bel B w0 w' ∧ D.bs = frames (lays rs) ∧ (∀ x ∈ rs, right x) ∧ sf ≤ rs.length ∧ D.safe = (frames ((lays rs).take sf)).length ∧ rs.length ≤ i
section
variable {W : World} {A : Option Addr} {c : Nat} {nl : List Nt}
theorem topNoted_ok (h : RowAt W.heap.size 7 (NtQ W) A nl) (cut keep : Int) (hcut : cut ≤ 9223372036854775807) : Ret Try.prog 3 [.slice A nl.length c, .int .i64 cut, .int .i64 keep] W (Done W) := by
  apply S3_calls
  refine (new_d (K := fun _ => False) (B := W.heap.size) (Nat.le_refl _) (fun _ h => h.elim)).use ?_
  rintro v w2 ⟨d, rfl, h2, f2, hd⟩
  refine ⟨_, rfl, ?_⟩
  refine (open0 h2).use ?_
  rintro v w3 ⟨j, A3, c3, rfl, h3, f3⟩
  refine ⟨_, _, _, _, _, rfl, cF rfl (cF rfl ?_)⟩
  refine (h3.disk (Q := fun v => v = _) fun h => h.cut cut hcut).use ?_
  rintro v w4 ⟨rfl, h4, f4⟩
  have g4 : Bel W.heap.size W w4 := f2.bel0.trans' ((offK_bel f3).trans' (offK_bel f4))
  have e4 : (ctD ⟨[], 0, false, -1⟩ cut).bs = [] ∧ (ctD ⟨[], 0, false, -1⟩ cut).safe = 0 := by unfold ctD; simp
  refine ⟨rfl, fun s w' => Noted W.heap.size w4 d nl.length s w' j, fun s _ => nl.length - s.2.2.1.toNat, ⟨_, fun _ => False, 0, 0, _, [], rfl, rfl, rfl, Nat.zero_le _, Nat.zero_le _, h4, Own.nil _ _ _ _, fun _ h => h.elim, Fr.refl _ _, e4.1, by simp, Nat.le_refl _, e4.2, Nat.le_refl _⟩, ?_⟩
  rintro J ⟨⟨A5, l5, c5⟩, sf', ii, ⟨⟩⟩ w5 ⟨K, KA, i, sf, D, rs, el, es, ei, hi, hi60, h5, o5, hAKB, g5, hDb, hr, hsf, hDs, hri⟩
  have hAK : ∀ k, KA k → K k := fun k hk => (hAKB k hk).1
  dsimp only at el es ei o5 ⊢
  subst el es ei
  have gW5 := g4.trans' g5
  refine cD (fun hlt => ?_) (fun hlt => noted_end h5 o5 hAK hDb hr hsf hDs (by omega) rfl gW5 keep)
  have hi' : i < nl.length := by have : (i : Int) < (nl.length : Int) := hlt; omega
  have hx : nl[i]? = some nl[i] := List.getElem?_eq_getElem hi'
  obtain ⟨a, ha, hab, hq⟩ := h i _ hx
  generalize nl[i] = x at hx hq
  have hq' : ∀ j v, (ncell x)[j]? = some v → w5.cell? ((a.add (i * 7)).add j) = some v := fun j v hv => by
    rw [gW5.cell (by rw [add_block, add_block]; exact hab) (by rw [add_block, add_block]; simp only [from1]; omega)]
    exact hq j v hv
  have q0 := hq' 0 _ rfl
  rw [add_zero'] at q0
  refine ⟨a, ha, by omega, by omega, _, by rw [Int.toNat_natCast]; exact q0, _, by rw [Int.toNat_natCast]; exact hq' 1 _ rfl, _, by rw [Int.toNat_natCast]; exact hq' 2 _ rfl, _, by rw [Int.toNat_natCast]; exact hq' 3 _ rfl, _, by rw [Int.toNat_natCast]; exact hq' 4 _ rfl, _, by rw [Int.toNat_natCast]; exact hq' 5 _ rfl, _, by rw [Int.toNat_natCast]; exact hq' 6 _ rfl, ?_⟩
  have bz := Blk.new w5 35 [.int .u8 0, .int .i64 0, .int .i64 0, .int .i64 0, .int .i64 0, .int .i64 0, .bool false]
  have fz : Fr none1 w5 (w5.alloc (.cells ⟨[.int .u8 0, .int .i64 0, .int .i64 0, .int .i64 0, .int .i64 0, .int .i64 0, .bool false]⟩ 35)) := Fr.alloc _ _
  obtain ⟨a0, a1, a2, a3, a4, a5, a6, w6, e6, b6, f6⟩ := bz.wr7 (.int .u8 x.1.k) (.int .i64 x.1.i) (.int .i64 x.1.r) (.int .i64 x.1.p) (.int .i64 x.1.c) (.int .i64 x.1.q) (.bool x.2)
  refine ⟨a0.1, a0.2, a1.1, a1.2, a2.1, a2.2, a3.1, a3.2, a4.1, a4.2, a5.1, a5.2, a6.1, a6.2, ?_⟩
  rw [e6]
  have f56 : Fr none1 w5 w6 := fz.trans f6 fun k hk e => by subst e; omega
  clear a0 a1 a2 a3 a4 a5 a6 e6 bz fz f6
  have hpl := b6.lt
  have h6 := h5.grow f56 fun _ _ h => h.elim
  have o6 := o5.fr f56 fun _ _ _ h => h
  have g6 := g5.trans' f56.bel0
  have hpA : ¬ KA w5.heap.size := fun hk => by have := h5.2.1.2.1 _ (.inl (hAK _ hk)); omega
  obtain ⟨K', hKe⟩ : ∃ K' : Nat → Prop, K' = fun k => K k ∨ (w5.heap.size ≤ k ∧ k < w6.heap.size) := ⟨_, rfl⟩
  rw [← hKe] at h6
  have hKp : K' w5.heap.size := by rw [hKe]; exact .inr ⟨Nat.le_refl _, hpl⟩
  have hAK' : ∀ k, KA k → K' k := fun k hk => by rw [hKe]; exact .inl (hAK k hk)
  clear hKe
  generalize w5.heap.size = p at b6 hKp hpA hpl ⊢
  refine cD (fun h60 => ?_) (fun h60 => ?_)
  · exact noted_end h6 o6 hAK' hDb hr hsf hDs (by omega) rfl (g4.trans' g6) keep
  have hi60' : i < 60 := by omega
  have nextI : IntKind.i64.wrap ((i : Int) + 1) = ((i + 1 : Nat) : Int) := by rw [IntWalk.i64_in _ (by omega)]; rfl
  have hsmA : ∀ {l : List Rc}, (∀ y ∈ l, right y) → ∀ y ∈ lays l, y.length ≤ 1000 := fun hl y hy => by
    obtain ⟨z, hz, rfl⟩ := List.mem_map.1 hy
    have := pkrb_le (hl z hz); omega
  refine ⟨_, (b6.cell 0).trans rfl, _, (b6.cell 1).trans rfl, _, (b6.cell 2).trans rfl, _, (b6.cell 3).trans rfl, _, (b6.cell 4).trans rfl, _, (b6.cell 5).trans rfl, ?_⟩
  refine (lay_ok x.1 w6).use ?_
  rintro v w7 ⟨A7, c7, rfl, o7, f7⟩
  have h7 := h6.fr0 f7
  have b7 := b6.fr f7 fun h => h
  have oA7 := o6.fr f7 fun _ _ _ h => h
  have g7 := g6.trans' f7.bel0
  refine ⟨_, _, _, _, rfl, ?_⟩
  by_cases hrx : right x.1
  · have el : layV x.1 = (pk (rb x.1), 0) := if_pos hrx
    rw [el] at o7 ⊢
    have hpl2 := pkrb_le hrx
    refine cF rfl ?_
    refine (note_ok h7 (xs := pk (rb x.1)) (c := c7) o7.rd (by omega) (by omega)).use ?_
    rintro v w8 ⟨rfl, h8, f8⟩
    have b8 := b7.fr f8 fun hk => hk.2 hKp
    have oA8 := oA7.fr f8 fun k _ hk ho => ho.2 (hAK' k hk)
    have g8 := g7.trans' (offK_bel f8)
    -- behind the note
    have k12 : ∀ (w9 : World) (K9 KA9 : Nat → Prop) (D9 : Dsk) (rs9 : List Rc) (A9 : Option Addr) (c9 : Nat), JnK K9 W.heap.size w9 j d D9 rs9.length → Own w9 33 6 KA9 A9 rs9.length c9 (rws rcell rs9) → (∀ k, KA9 k → K9 k ∧ W.heap.size ≤ k) → Blk w9 p 35 (ncell x) → Bel W.heap.size w4 w9 → D9.bs = frames (lays rs9) → (∀ y ∈ rs9, right y) → sf ≤ rs9.length → D9.safe = (frames ((lays rs9).take sf)).length → rs9.length ≤ i + 1 →
        S3_k12 keep (some ⟨d, 0, none⟩) (some ⟨j, 0, none⟩) A9 rs9.length c9 (sf : Int) ⟨p, 0, none⟩ A nl.length c (nl.length : Int) (i : Int) w9 (Done W) (fun s' w'' => Noted W.heap.size w4 d nl.length s' w'' j ∧ nl.length - s'.2.2.1.toNat < nl.length - (i : Int).toNat) := by
      intro w9 K9 KA9 D9 rs9 A9 c9 h9 o9 hAK9 b9 g9 hDb9 hr9 hsf9 hDs9 hri9
      refine ⟨x.2, by rw [add_g]; exact (b9.cell 6).trans rfl, cB (fun hs => ?_) (fun hs => ?_)⟩
      · refine (jsync_ok h9).use ?_
        rintro v w10 ⟨rfl, h10, f10⟩
        have o10 := o9.fr f10 fun k _ hk ho => ho.2 (hAK9 k hk).1
        have g10 := g9.trans' (offK_bel f10)
        obtain ⟨e1, e2⟩ := pw_bs D9
        refine ⟨_, rfl, ?_⟩
        by_cases he : pwE D9 = 0
        · have eD : syD D9 = { pwD D9 with safe := D9.bs.length } := if_pos he
          refine cT (decide_eq_true he) ?_
          rw [nextI]
          refine ⟨⟨K9, KA9, i + 1, rs9.length, _, rs9, rfl, rfl, rfl, by omega, by omega, h10, o10, hAK9, g10, by rw [eD]; exact e1.trans hDb9, hr9, Nat.le_refl _, ?_, hri9⟩, by dsimp only; omega⟩
          rw [eD, ← lays_len rs9, List.take_length, hDb9]
        · have eD : syD D9 = pwD D9 := if_neg he
          refine cF (decide_eq_false he) ?_
          rw [nextI]
          exact ⟨⟨K9, KA9, i + 1, sf, _, rs9, rfl, rfl, rfl, by omega, by omega, h10, o10, hAK9, g10, by rw [eD, e1, hDb9], hr9, hsf9, by rw [eD, e2, hDs9], hri9⟩, by dsimp only; omega⟩
      · refine cF rfl ?_
        rw [nextI]
        exact ⟨⟨K9, KA9, i + 1, sf, D9, rs9, rfl, rfl, rfl, by omega, by omega, h9, o9, hAK9, g9, hDb9, hr9, hsf9, hDs9, hri9⟩, by dsimp only; omega⟩
    refine ⟨_, rfl, cD (fun he => ?_) (fun he => ?_)⟩
    · obtain ⟨_, d1', d2'⟩ := note_zero he
      have hn8 : ntN D (pk (rb x.1)) rs.length = (rs ++ [x.1]).length := by unfold ntN; rw [if_pos he]; simp
      rw [hn8] at h8
      have fl : Fr none1 w8 (w8.alloc (.cells ⟨rcell x.1⟩ 33)) := Fr.alloc _ _
      have lit := Own.lit w8 33 6 1 (rcell x.1) rfl (by simp [maxLen])
      have oA8' := (oA8.mono (ok' := fun k => KA k ∧ k < w8.heap.size) fun k hk h => ⟨h, hk⟩).fr fl fun _ _ _ h => h
      obtain ⟨A9, c9, w9, r9, o9, f9, _⟩ := run_append (ty := 31) (m := 1) (c2 := 1) Erc oA8' rfl lit.rd (fun v hv => by
        simp only [rcell, List.mem_cons, List.not_mem_nil, or_false] at hv
        rcases hv with rfl | rfl | rfl | rfl | rfl | rfl <;> rfl) (by omega) (by simp only [maxLen]; omega)
      have f89 : Fr KA w8 w9 := (fl.mono fun _ _ h => h.elim).trans' (f9.mono fun k _ ⟨q, hq, e⟩ => e ▸ (oA8'.has q hq).1.1)
      have hs8 := fl.size
      have hAB : ∀ k, KA k → W.heap.size ≤ k := fun k hk => (hAKB k hk).2
      refine ⟨_, (b8.cell 0).trans rfl, _, (b8.cell 1).trans rfl, _, (b8.cell 2).trans rfl, _, (b8.cell 3).trans rfl, _, (b8.cell 4).trans rfl, _, (b8.cell 5).trans rfl, A9, _, c9, w9, r9, ?_⟩
      have e9 : rs.length + 1 = (rs ++ [x.1]).length := by simp
      rw [e9] at o9 ⊢
      have erw : rws rcell rs ++ rcell x.1 = rws rcell (rs ++ [x.1]) := by rw [rws_append, rws_one]
      rw [erw] at o9
      refine k12 w9 (fun k => K' k ∨ (w8.heap.size ≤ k ∧ k < w9.heap.size)) (fun k => (KA k ∨ w8.heap.size ≤ k) ∧ k < w9.heap.size) _ _ A9 c9 (h8.grow f89 fun k _ hk => .inl (hAK' k hk)) (o9.mono fun k hk h => ⟨h.imp (fun h => h.1) (fun h => Nat.le_trans hs8 h), hk⟩) (fun k hk => ?_) (b8.fr f89 hpA) (g8.trans' (f89.bel hAB)) ?_ (fun y hy => ?_) (by simp; omega) ?_ (by simp; omega)
      · have := h8.2.1.2.2
        rcases hk.1 with h | h
        · exact ⟨.inl (hAK' k h), hAB k h⟩
        · exact ⟨.inr ⟨h, hk.2⟩, by omega⟩
      · rw [d1', hDb, lays_snoc, frames_append]; simp [frames]
      · rcases List.mem_append.1 hy with hy | hy
        · exact hr y hy
        · rw [List.mem_singleton] at hy; subst hy; exact hrx
      · rw [d2', hDs, lays_snoc, List.take_append_of_le_length (by rw [lays_len]; exact hsf)]
    · have hn8 : ntN D (pk (rb x.1)) rs.length = rs.length := by unfold ntN; rw [if_neg he]
      rw [hn8] at h8
      have hfl := frames_le (hsmA hr)
      rw [lays_len] at hfl
      have hbad : (ntD D (pk (rb x.1))).bs = D.bs ∧ (ntD D (pk (rb x.1))).safe = D.safe := by
        rcases note_bad (xs := pk (rb x.1)) he (by rw [hDb]; omega) with ⟨_, h1, _⟩ | ⟨_, _, h1, h2⟩
        · omega
        · exact ⟨h1, h2⟩
      exact k12 w8 K' KA _ rs A5 c5 h8 oA8 (fun k hk => ⟨hAK' k hk, (hAKB k hk).2⟩) b8 g8 (by rw [hbad.1, hDb]) hr hsf (by rw [hbad.2, hDs]) (by omega)
  · have el : layV x.1 = ([], 1) := if_neg hrx
    rw [el]
    refine cT rfl ⟨_, (b7.cell 0).trans rfl, _, (b7.cell 1).trans rfl, _, (b7.cell 2).trans rfl, _, (b7.cell 3).trans rfl, _, (b7.cell 4).trans rfl, _, (b7.cell 5).trans rfl, ?_⟩
    refine (right_ok x.1 w7).use ?_
    rintro v w8 ⟨rfl, f8⟩
    refine ⟨_, rfl, cF (decide_eq_false hrx) ?_⟩
    rw [nextI]
    exact ⟨⟨K', KA, i + 1, sf, D, rs, rfl, rfl, rfl, by omega, by omega, h7.fr0 f8, oA7.fr f8 fun _ _ _ h => h, fun k hk => ⟨hAK' k hk, (hAKB k hk).2⟩, g7.trans' f8.bel0, hDb, hr, hsf, hDs, by omega⟩, by dsimp only; omega⟩
end
end Go.Proofs
