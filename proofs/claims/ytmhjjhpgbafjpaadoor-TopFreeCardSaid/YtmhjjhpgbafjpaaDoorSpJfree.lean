/- Ways through time: a search looks ahead, step by step. -/
import Derived.Test.YtmhjjhpgbafjpaaDoorSpIfree
set_option linter.unusedVariables false
set_option maxRecDepth 100000
namespace Go.Proofs
open Go Go.Eng
section
variable {w w' : World} {own : Nat → Nat} {i j : Nat}
theorem RdKeep {A : Option Addr} {xs : List Value} (h : Rd w (fun k => own k = 0) A xs) (f : Fr (fun k => own k = i) w w') (hi : i ≠ 0) : Rd w' (fun k => nxt own w.heap.size i k = 0) A xs := (h.mono keepM).fr f (keepF f hi)
theorem RdZ {A : Option Addr} {xs : List Value} (h : Rd w (fun k => own k = 0) A xs) (f : Fr none1 w w') : Rd w' (fun k => nxt own w.heap.size 0 k = 0) A xs := (h.mono keepM).fr f fun _ _ _ h => h
end
section
variable {B : Nat} {w0 w w' : World} {own : Nat → Nat} {f : Fl} {s t m hb : Nat} {from_ start last : Int} {A A' : Option Addr} {c c' n n' : Nat} {cof cof' : Nat → Int} {nt : Nat} {cft : Nat → Int} {tf : Int → List Wn}
abbrev RJ (B : Nat) (w0 w : World) (own : Nat → Nat) (f : Fl) (s t m hb : Nat) (from_ start last : Int) (st : RSt) (A : Option Addr) (c n : Nat) (cof : Nat → Int) (nt : Nat) (cft : Nat → Int) (tf : Int → List Wn) : Prop := RI B w0 w own f s t m hb from_ start last st.S st.nx st.all st.g A c n cof nt cft tf
/-- One more stay is pushed, if it is not known. -/
theorem run_k6 {st : RSt} (I : RJ B w0 w own f s t m hb from_ start last st A c n cof nt cft tf) (hg : ∀ c, (st.g c).length ≤ 1000) (hnx : st.nx ≤ 45000) (hlen : st.all.length = st.nx) {L : List Sy} {Lb : Option Addr} {Lc : Nat} {j : Nat} {y : Sy} (hj : L[j]? = some y) (hL : L.length ≤ 1000) (hc : i64r y.c) {xb : Nat} {xs : List Value} (hr : Rd w (fun k => own k = 0) Lb (rws ycell L)) (hx : own xb = 0 ∧ Blk w xb 86 xs) {R : Value → World → Prop} {B1 : (Option Addr × Nat × Nat) × (Addr) × (Bool) × Unit → World → Prop} {B2 : (Option Addr × Nat × Nat) × (Int) × Unit → World → Prop}
    (hB : ∀ w' own' A' c', RJ B w0 w' own' f s t m hb from_ start last (pushY st.g st y) A' c' n cof nt cft tf → Rd w' (fun k => own' k = 0) Lb (rws ycell L) → (own' xb = 0 ∧ Blk w' xb 86 xs) → B2 ((A', (pushY st.g st y).all.length, c'), ((j + 1 : Nat) : Int), ()) w') :
    S17_k6 (some ⟨s, 0, none⟩) (some ⟨hb, 0, none⟩) A st.all.length c ⟨xb, 0, none⟩ Lb L.length Lc (L.length : Int) (j : Int) w R B1 B2 := by
  have hj' := (List.getElem?_eq_some_iff.1 hj).1
  obtain ⟨a, ha, c0, c1, c2⟩ := row3 hr hj
  obtain ⟨⟨u1, z1, u2, z2, u3, z3⟩, b1, f1⟩ := nw3 w 58 (.int .i64 0) (.int .i64 0) (.int .i64 0) (.int .i64 y.c) (.int .i64 y.fr) (.int .i64 y.to) _ rfl
  have I1 := RI.z I f1
  have x1 := BlkZ hx f1
  have r1 := RdZ hr f1
  have y1 : nxt own w.heap.size 0 w.heap.size = 0 ∧ Blk _ w.heap.size 58 (ycell y) := BlkNew (own := own) b1 (Nat.le_refl _)
  refine ⟨a, ha, by omega, by omega, _, c0, _, c1, _, c2, u1, z1, u2, z2, u3, z3, _, b1.cell 0, _, b1.cell 1, _, b1.cell 2, ?_⟩
  generalize World.setCell _ _ _ = w1 at I1 x1 r1 y1 ⊢
  generalize nxt own w.heap.size 0 = own1 at I1 x1 r1 y1
  generalize w.heap.size = Y at y1 ⊢
  refine (known_ok I1.sr I1.mp y hc (by have := hg y.c; omega)).use ?_
  rintro v w2 ⟨rfl, f2⟩
  have I2 := RI.z I1 f2
  have x2 := BlkZ x1 f2
  have r2 := RdZ r1 f2
  have y2 := BlkZ y1 f2
  generalize nxt own1 w1.heap.size 0 = own2 at I2 x2 r2 y2
  rw [IntWalk.i64_in _ (by omega)]
  refine ⟨_, rfl, ?_⟩
  cases hk : (st.g y.c).any (kn1 y) with
  | true =>
    have e : pushY st.g st y = st := by unfold pushY; rw [if_pos hk]
    refine cF rfl ?_
    have := hB w2 own2 A c (by rw [e]; exact I2) r2 x2
    rw [e] at this
    exact this
  | false =>
    have e : pushY st.g st y = { st with S := insE (y.fr, (st.all.length : Int), (st.nx : Int)) st.S, nx := st.nx + 1, all := st.all ++ [y] } := by unfold pushY; rw [if_neg (by rw [hk]; decide)]
    refine cT rfl ⟨y.fr, y2.2.cell 1, ?_⟩
    refine (hpush_ok I2.hp (by omega) (y.fr, (st.all.length : Int))).use ?_
    rintro v w3 ⟨rfl, h3, f3⟩
    have I3 := RI.heap I2 f3 h3
    have x3 := BlkKeep x2 f3 (by decide)
    have r3 := RdKeep r2 f3 (by decide)
    have y3 := BlkKeep y2 f3 (by decide)
    generalize nxt own2 w2.heap.size 4 = own3 at I3 x3 r3 y3
    obtain ⟨A4, c4, w4, p4, o4, f4⟩ := app_stay I3.al y (by omega)
    have f4' : Fr (fun k => own3 k = 3) w3 w4 := f4.mono fun k _ ⟨a, ha, e⟩ => e ▸ (I3.al.has a ha).1
    have I4 := RI.more I3 f4' o4
    have x4 := BlkKeep x3 f4' (by decide)
    have r4 := RdKeep r3 f4' (by decide)
    refine ⟨rfl, _, y3.2.cell 0, _, y3.2.cell 1, _, y3.2.cell 2, A4, _, c4, w4, p4, ?_⟩
    have := hB w4 _ A4 c4 (by rw [e]; exact I4) r4 x4
    rw [e] at this
    exact this
/-- All that lies beyond a stay is pushed; and a pop. -/
theorem run_k4 {st : RSt} (I : RJ B w0 w own f s t m hb from_ start (start + 40) st A c n cof nt cft tf) {ph : Nat} (hP : PInv f from_ start st 0 ph) (hph : ph ≤ 44000) (hC : f.C.size ≤ 256) (hst : 0 ≤ start ∧ start ≤ 1000) (hT : ∀ c, tf c = []) {now : Sy} (hnow : now ∈ st.g now.c) {xb nb : Nat} {a b : Int} (hx : own xb = 0 ∧ Blk w xb 86 [.int .i64 a, .int .i64 b]) (hnb : own nb = 0 ∧ Blk w nb 58 (ycell now)) {R : Value → World → Prop} {B1 : (Option Addr × Nat × Nat) × (Addr) × (Bool) × Unit → World → Prop}
    (hB : ∀ w' own' xb' A' c' st', st' = (beyF f from_ (start + 40) now).foldl (pushY st.g) st → RI B w0 w' own' f s t m hb from_ start (start + 40) st'.S.tail st'.nx st'.all st'.g A' c' n cof nt cft tf → (own' xb' = 0 ∧ Blk w' xb' 86 (it2 (hd st'.S))) → B1 ((A', st'.all.length, c'), ⟨xb', 0, none⟩, !st'.S.isEmpty, ()) w') :
    S17_k4 (some ⟨s, 0, none⟩) (some ⟨hb, 0, none⟩) A st.all.length c ⟨xb, 0, none⟩ ⟨nb, 0, none⟩ w R B1 := by
  have hall := hP.all now (hP.g _ now hnow).2
  have hgl : ∀ c, (st.g c).length ≤ 1000 := fun c => by have := hP.gl c; omega
  have hbl := bey_len f from_ (start + 40) now
  refine ⟨_, hnb.2.cell 0, _, by rw [add_g]; exact hnb.2.cell 1, _, by rw [add_g]; exact hnb.2.cell 2, ?_⟩
  refine (beyond_ok I.sr I.tb now hall.2.1 hC (by omega) (fun c _ => hT c)).use ?_
  rintro v w1 ⟨Lb, Lc, rfl, oL, f1⟩
  have I1 : RJ B w0 w1 (nxt own w.heap.size 0) f s t m hb from_ start (start + 40) st A c n cof nt cft tf := RI.z I f1
  have x1 := BlkZ hx f1
  have r1 : Rd w1 (fun k => nxt own w.heap.size 0 k = 0) Lb (rws ycell (beyF f from_ (start + 40) now)) := oL.rd.mono fun k _ h => nxt_or (.inr h)
  generalize nxt own w.heap.size 0 = own1 at I1 x1 r1
  have hmem : ∀ y ∈ beyF f from_ (start + 40) now, y ∈ beyF f from_ (start + 40) now := fun _ h => h
  have hps := fun j : Nat => hP.pushes (now := now) (g := st.g) hall.2.2.1 ((beyF f from_ (start + 40) now).take j) (fun y hy => List.mem_of_mem_take hy) hnow
  have hbm : ∀ y ∈ beyF f from_ (start + 40) now, i64r y.c := fun y hy => by
    have := (near_bound (bey_mem hy).1).2.2.1
    exact i64r_of (by omega)
  generalize beyF f from_ (start + 40) now = L at r1 hps hbl hB hbm ⊢
  refine ⟨Lb, _, Lc, rfl, fun s' w' => ∃ (j : Nat) (A : Option Addr) (c : Nat) (own : Nat → Nat), s' = ((A, ((L.take j).foldl (pushY st.g) st).all.length, c), (j : Int), ()) ∧ j ≤ L.length ∧ RJ B w0 w' own f s t m hb from_ start (start + 40) ((L.take j).foldl (pushY st.g) st) A c n cof nt cft tf ∧ Rd w' (fun k => own k = 0) Lb (rws ycell L) ∧ (own xb = 0 ∧ Blk w' xb 86 [.int .i64 a, .int .i64 b]), fun s' _ => L.length - s'.2.1.toNat, ⟨0, A, c, own1, by rw [List.take_zero]; rfl, Nat.zero_le _, by rw [List.take_zero]; exact I1, r1, x1⟩, ?_⟩
  rintro J s' w2 ⟨j, A2, c2, own2, rfl, hj, I2, r2, x2⟩
  dsimp only
  obtain ⟨P2, g2, l2⟩ := hps j
  have hnx2 := P2.nx
  have htl : (L.take j).length ≤ 4 := by rw [List.length_take]; omega
  refine cD (fun hlt => ?_) (fun hlt => ?_)
  · have hj' : j < L.length := by omega
    have hy : L[j]? = some L[j] := List.getElem?_eq_getElem hj'
    have hyc := hbm _ (List.getElem_mem hj')
    have et : (L.take (j + 1)).foldl (pushY st.g) st = pushY st.g ((L.take j).foldl (pushY st.g) st) L[j] := by rw [List.take_add_one, hy, List.foldl_append]; rfl
    generalize L[j] = y at hy hyc et
    generalize (L.take j).foldl (pushY st.g) st = st2 at I2 P2 g2 et hnx2 ⊢
    refine run_k6 I2 (by rw [g2]; exact hgl) (by omega) P2.len hy (by omega) hyc r2 x2 fun w3 own3 A3 c3 I3 r3 x3 => ?_
    rw [g2, ← et] at I3 ⊢
    exact ⟨⟨j + 1, A3, c3, own3, rfl, by omega, I3, r3, x3⟩, by dsimp only; omega⟩
  · have e : j = L.length := by omega
    subst e
    rw [List.take_length] at I2 hnx2 ⊢
    exact run_k2 I2 (by omega) x2 fun w3 own3 xb3 I3 x3 => hB _ _ _ _ _ _ rfl I3 x3
end
end Go.Proofs
