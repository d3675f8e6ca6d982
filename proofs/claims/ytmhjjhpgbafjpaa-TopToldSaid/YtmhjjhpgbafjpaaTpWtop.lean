/- TopTold: the steps. -/
import Derived.Test.YtmhjjhpgbafjpaaTpUtop
set_option linter.unusedVariables false
set_option maxRecDepth 100000
namespace Go.Proofs
open Go Go.Eng
structure Sp where
  k : Int
  z : Ac
  i : Int
def scell (s : Sp) : List Value := [.int .u8 s.k, .int .u8 s.z.k, .int .i64 s.z.c, .int .i64 s.z.p, .int .i64 s.i]
theorem look_mem {L : List Bs} {i : Int} {y : Bs} (h : look L i = some y) : y ∈ L := by
  unfold look at h
  split at h
  · exact List.mem_of_getElem? h
  · cases h
def TMore (W : World) (a : TAd) (i : Nat) (B1 : (Option Addr × Nat × Nat) × (Option Addr × Nat × Nat) × (Int) × Unit → World → Prop) : Prop :=
  ∀ w' own' x' tA' tc' dA' dc', TX 0 W w' own' a x' tA' tc' dA' dc' → TInv x' → x'.T.length ≤ i + 1 → B1 ((tA', x'.T.length, tc'), (dA', x'.d, dc'), ((i + 1 : Nat) : Int), ()) w'
section
variable {W w : World} {own : Nat → Nat} {a : TAd} {x : TPs} {tA dA : Option Addr} {tc dc : Nat}
variable {lA : Option Addr} {ll lc : Nat} {n : Int} {i : Nat} {R : Value → World → Prop} {B1 : (Option Addr × Nat × Nat) × (Option Addr × Nat × Nat) × (Int) × Unit → World → Prop}
theorem told_m (M : TMore W a i B1) (h : TX 0 W w own a x tA tc dA dc) (I : TInv x) (hn : x.T.length ≤ i + 1) (hi : i < 200) :
    S4_k9 (va a.vr) (va a.vs) (va a.vh) (va a.vt) (va a.vf) tA x.T.length tc dA x.d dc (va a.vr) (va a.vf) (va a.vs) (va a.vh) (va a.vt) lA ll lc n (i : Int) w R B1 :=
  told_k9 h I (by omega) (by omega) fun w' own' h' => M w' own' x tA tc dA dc h' I hn
theorem told_n (M : TMore W a i B1) (h : Nx W a x tA tc dA dc w) (hn : x.T.length ≤ i) (hi : i < 200) :
    S4_k9 (va a.vr) (va a.vs) (va a.vh) (va a.vt) (va a.vf) tA x.T.length tc dA x.d dc (va a.vr) (va a.vf) (va a.vs) (va a.vh) (va a.vt) lA ll lc n (i : Int) w R B1 := by
  obtain ⟨own', x', h', I', e1, e2⟩ := h
  rw [← e1, ← e2]
  exact told_m M h' I' (by rw [e1]; omega) hi
theorem told_k7 (M : TMore W a i B1) (h : TX 0 W w own a x tA tc dA dc) (I : TInv x) (hn : x.T.length ≤ i) (hi : i < 200) {s : Sp} {pb : Nat} (bp : own pb = 0 ∧ Blk w pb 69 (scell s)) (hm : may s.z) (hs : x.st = false) (hh : x.hh = x.T.length) {bA : Option Addr} {bc : Nat} (hb : Rd w (fun k => own k = 0) bA (bvs (pk (ab s.z)))) :
    S4_k7 (va a.vr) (va a.vs) (va a.vh) (va a.vt) (va a.vf) tA x.T.length tc dA x.d dc (va a.vr) (va a.vf) (va a.vs) (va a.vh) (va a.vt) (va pb) bA (pk (ab s.z)).length bc lA ll lc n (i : Int) w R B1 := by
  have l1 := I.ts
  refine ⟨_, h.vs.2.cell 0, ?_⟩
  have hsn := h.snd (by decide)
  rw [hs] at hsn
  refine (stell_ok hsn (by omega) hb (by rw [pkab_len]; omega)).use ?_
  rintro v w1 ⟨rfl, r, f⟩
  have fo := FrOne f hsn.1
  have h1 := (h.go (by decide) fo).setSnd (r.mono fun k _ e => nxt_or e)
  have bp1 := (BlkKeep bp fo (by decide)).2
  obtain ⟨A', c', w2, r2, h2⟩ := h1.tell s.z (by dsimp only; omega) (Nat.le_trans I.le1 I.le2)
  refine ⟨_, rfl, cF rfl ⟨_, by rw [add_g]; exact bp1.cell 1, _, by rw [add_g, add_go]; exact bp1.cell 2, _, by rw [add_g, add_go]; exact bp1.cell 3, A', _, c', w2, r2, ?_⟩⟩
  have I2 := I.tell hm hh hs
  have el : (x.T ++ [s.z]).length = x.T.length + 1 := by simp
  have := told_m (lA := lA) (ll := ll) (lc := lc) (n := n) (R := R) M h2 I2 (by dsimp only; omega) hi
  dsimp only at this
  rw [el] at this
  exact this
theorem told_k6 (M : TMore W a i B1) (h : TX 0 W w own a x tA tc dA dc) (I : TInv x) (hn : x.T.length ≤ i) (hi : i < 200) {s : Sp} {pb : Nat} (bp : own pb = 0 ∧ Blk w pb 69 (scell s)) (hm : may s.z) (hh : x.hh = x.T.length) {bA : Option Addr} {bc : Nat} (hb : Rd w (fun k => own k = 0) bA (bvs (pk (ab s.z)))) :
    S4_k6 (va a.vr) (va a.vs) (va a.vh) (va a.vt) (va a.vf) tA x.T.length tc dA x.d dc (va a.vr) (va a.vf) (va a.vs) (va a.vh) (va a.vt) (va pb) bA (pk (ab s.z)).length bc lA ll lc n (i : Int) w R B1 := by
  have l1 := I.ts
  refine ⟨_, h.vs.2.cell 0, ?_⟩
  have hsn := h.snd (by decide)
  by_cases hs : x.st = true
  · obtain ⟨z, hz1, hz2⟩ := I.sd hs
    rw [hs] at hsn l1
    simp [nN] at l1
    have hsd : x.sd.length ≤ 200 := by rw [hz2, pkab_len]; omega
    refine (spacket_ok hsn (by omega) hsd).use ?_
    rintro v w1 ⟨hv, f1⟩
    obtain ⟨A, c, rfl, o⟩ := hv
    refine ⟨_, _, _, _, rfl, cT rfl ?_⟩
    have hpk : Pok ⟨false, x.ts + 1, x.sd⟩ := ⟨by dsimp only; omega, hsd, by simp⟩
    refine (ltake_ok o.rd o.le hpk).use ?_
    rintro v w2 ⟨A2, c2, rfl, o2, f2⟩
    obtain ⟨⟨u1, z1, u2, z2, u3, z3⟩, bq, f3⟩ := new3 w2 58 (.bool false) (.int .u64 0) (.slice none 0 0) (.bool false) (.int .u64 ((x.ts + 1 : Nat) : Int)) (.slice A2 x.sd.length c2) _ rfl
    refine ⟨_, _, _, _, _, _, rfl, u1, z1, u2, z2, u3, z3, _, bq.cell 1, ?_⟩
    have hpk2 : Pok ⟨true, x.ts + 1, []⟩ := ⟨by dsimp only; omega, by simp, by simp⟩
    refine (llay_ok (p := ⟨true, x.ts + 1, []⟩) (A := none) (c := 0) (ok := none1) (.inl rfl) hpk2).use ?_
    rintro v w4 ⟨A4, c4, rfl, o4, f4⟩
    have ff := f1.trans' (f2.trans' (f3.trans' f4))
    have h4 := h.fr0 ff
    have bp4 : nxt own w.heap.size 0 pb = 0 ∧ Blk w4 pb 69 (scell s) := ⟨by rw [nxt_lt bp.2.lt]; exact bp.1, bp.2.fr ff fun h => h⟩
    have hb4 : Rd w4 (fun k => nxt own w.heap.size 0 k = 0) bA (bvs (pk (ab s.z))) := (hb.mono keepM).fr ff fun _ _ _ h => h
    refine ⟨_, _, _, _, rfl, _, h4.vs.2.cell 0, ?_⟩
    have hsn4 := h4.snd (by decide)
    rw [hs] at hsn4
    refine (shear_ok hsn4 (by omega) o4.rd o4.le hpk2).use ?_
    rintro v w5 ⟨hv, f5⟩
    rw [if_pos ⟨rfl, rfl, rfl⟩] at hv
    obtain ⟨rfl, g⟩ := hv
    have fo := FrOne f5 hsn4.1
    have h5 := (h4.go (by decide) fo).setSnd (g.mono fun k _ e => nxt_or (.inl e))
    exact ⟨_, rfl, told_k7 M h5 (I.sheard hs) hn hi (BlkKeep bp4 fo (by decide)) hm rfl hh (RdKeep hb4 fo (by decide))⟩
  · have hs' : x.st = false := by cases h : x.st; rfl; exact absurd h hs
    rw [hs'] at hsn l1
    refine (spacket0 hsn).use ?_
    rintro v w1 ⟨rfl, rfl⟩
    exact ⟨_, _, _, _, rfl, cF rfl (told_k7 M h I hn hi bp hm hs' hh hb)⟩
theorem told_k5 (M : TMore W a i B1) (h : TX 0 W w own a x tA tc dA dc) (I : TInv x) (hn : x.T.length ≤ i) (hi : i < 200) {pb : Nat} {bA : Option Addr} {bl bc : Nat} :
    S4_k5 (va a.vr) (va a.vs) (va a.vh) (va a.vt) (va a.vf) tA x.T.length tc dA x.d dc (va a.vr) (va a.vf) (va a.vs) (va a.vh) (va a.vt) (va pb) bA bl bc lA ll lc n (i : Int) true w R B1 := by
  refine cT rfl ?_
  rw [IntWalk.i64_in _ (by omega)]
  exact M w own x tA tc dA dc h I (by omega)
end
end Go.Proofs
