/- Packets: how they are taken. -/
import Derived.Test.YtmhjjhpgbafjpaaLkCtop
import Derived.Test.YtmhjjhpgbafjpaaRcCtop
set_option linter.unusedVariables false
namespace Go.Proofs
open Go Go.Eng
def pad (p : Pk) : Nat := 8 * (((pbits p).length + 7) / 8) - (pbits p).length
theorem pad_lt (p : Pk) : pad p < 8 := by unfold pad; omega
theorem pbits_full (p : Pk) : up8 (pk (pbits p)) = nb (hb p) 1 ++ (cb p.n ++ (up8 p.data ++ List.replicate (pad p) false)) := by
  rw [up8_pk]
  have : pbits p = nb (hb p) 1 ++ (cb p.n ++ up8 p.data) := rfl
  unfold pad
  conv => lhs; arg 1; rw [this]
  rw [List.append_assoc, List.append_assoc]
theorem pbits_size (p : Pk) : 8 * (pk (pbits p)).length = 1 + (cb p.n).length + 8 * p.data.length + pad p := by
  have h := congrArg List.length (pbits_full p)
  rw [up8_length, List.length_append, List.length_append, List.length_append, nb_length, up8_length, List.length_replicate] at h
  omega
theorem pdrop (p : Pk) (j : Nat) : (up8 (pk (pbits p))).drop (1 + (cb p.n).length + 8 * j) = up8 (p.data.drop j) ++ (List.replicate (pad p) false).drop (8 * (j - p.data.length)) := by
  rw [pbits_full, ← List.append_assoc, ← List.append_assoc]
  have hl : (nb (hb p) 1 ++ cb p.n).length = 1 + (cb p.n).length := by rw [List.length_append, nb_length]
  rw [List.append_assoc, ← hl, List.drop_length_add_append]
  have hs : up8 p.data = up8 (p.data.take j) ++ up8 (p.data.drop j) := by rw [← up8_append, List.take_append_drop]
  by_cases hj : j ≤ p.data.length
  · have e : 8 * j = (up8 (p.data.take j)).length := by rw [up8_length, List.length_take, Nat.min_eq_left hj]
    rw [hs, List.append_assoc]
    conv => lhs; arg 1; rw [e]
    rw [List.drop_left, Nat.sub_eq_zero_of_le hj, Nat.mul_zero, List.drop_zero]
  · rw [List.drop_append, List.drop_eq_nil_of_le (by rw [up8_length]; omega), (List.drop_eq_nil_iff.2 (by omega) : p.data.drop j = []), up8_length]
    have : 8 * j - 8 * p.data.length = 8 * (j - p.data.length) := by omega
    rw [this]; simp [up8]
theorem get_val {w : World} {ok : Nat → Prop} {b : Nat} {xs : Bs} {i : Nat} {rest : List Bool} (h : RdrAt w ok b xs i 0) {n k : Nat} (hd : (up8 xs).drop i = nb n k ++ rest) (hk : k ≤ 64) : Ret Try.prog 52 [.pointer (some ⟨b, 0, none⟩), .int .i64 (k : Int)] w fun v w' => v = .int .u64 ((n % 2 ^ k : Nat) : Int) ∧ RdrAt w' ok b xs (i + k) 0 ∧ Fr (fun k => k = b) w w' := by
  obtain ⟨e1, e2, e3⟩ := read_get hd hk (by rw [up8_length]; exact h.2.1)
  have := get_ok h (k : Int)
  rwa [e2, e3] at this
theorem rcount_val {w : World} {ok : Nat → Prop} {b : Nat} {xs : Bs} {i : Nat} {rest : List Bool} (h : RdrAt w ok b xs i 0) {x : Nat} (hd : (up8 xs).drop i = cb x ++ rest) (hx : x + 1 < 2 ^ 64) : Ret Try.prog 53 [.pointer (some ⟨b, 0, none⟩)] w fun v w' => v = .int .u64 (x : Int) ∧ RdrAt w' ok b xs (i + (cb x).length) 0 ∧ Fr (fun k => k = b) w w' := by
  obtain ⟨e1, e2, e3⟩ := read_count hd hx (by rw [up8_length]; exact h.2.1)
  have := rcount_ok h
  rwa [e2, e3] at this
theorem inner_bits {p : Pk} (h : Pok p) : openB (layB p) = some (pk (pbits p)) := openB_some.2 ⟨by have := (pbits_len h).2; omega, rfl⟩
structure TlS (w0 : World) (b2 rb pb : Nat) (p : Pk) (j : Nat) (w : World) : Prop where
  rdr : RdrAt w (fun k => w0.heap.size < k ∧ k < pb) rb (pk (pbits p)) (1 + (cb p.n).length + 8 * j) 0
  blk : ∃ A c, Blk w pb 58 [.bool p.hd, .int .u64 (p.n : Int), .slice A j c] ∧ Own w 5 1 (bw (pb + 1) w) A j c (bvs (p.data.take j))
  out : Blk w b2 58 [.bool false, .int .u64 0, .slice none 0 0]
  low : b2 = w0.heap.size ∧ w0.heap.size < pb ∧ j ≤ p.data.length
  bel : Bel w0.heap.size w0 w
section
variable {w0 w : World} {b2 rb pb : Nat} {p : Pk} {j : Nat}
theorem TlS.rblt (h : TlS w0 b2 rb pb p j w) : w0.heap.size < rb ∧ rb < pb := h.rdr.1
theorem TlS.pblt (h : TlS w0 b2 rb pb p j w) : pb < w.heap.size := by obtain ⟨A, c, hb, _⟩ := h.blk; exact hb.lt
theorem TlS.frz (h : TlS w0 b2 rb pb p j w) {w' : World} (f : Fr none1 w w') : TlS w0 b2 rb pb p j w' := by
  obtain ⟨A, c, hb, ho⟩ := h.blk
  have := f.size
  exact ⟨h.rdr.fr f fun _ _ _ h => h, ⟨A, c, hb.fr f fun h => h, (ho.fr f fun _ _ _ h => h).mono fun k _ hk => ⟨hk.1, by have := hk.2; omega⟩⟩, h.out.fr f fun h => h, h.low, h.bel.trans' f.bel0⟩
theorem TlS.left (h : TlS w0 b2 rb pb p j w) : Ret Try.prog 56 [.pointer (some ⟨rb, 0, none⟩)] w fun v w' => v = .int .i64 (8 * ((p.data.length - j : Nat) : Int) + (pad p : Int)) ∧ TlS w0 b2 rb pb p j w' := by
  refine (left_ok h.rdr).imp fun v w' ⟨e, k, f⟩ => ⟨?_, h.frz f⟩
  have := pbits_size p
  have := h.low.2.2
  rw [e]; congr 1; omega
/-- The next byte: the reader's part. -/
theorem TlS.get (h : TlS w0 b2 rb pb p j w) (hj : j < p.data.length) {x : UInt8} (hx : p.data[j]? = some x) : Ret Try.prog 52 [.pointer (some ⟨rb, 0, none⟩), .int .i64 8] w fun v w' => v = .int .u64 (x.toNat : Int) ∧ RdrAt w' (fun k => w0.heap.size < k ∧ k < pb) rb (pk (pbits p)) (1 + (cb p.n).length + 8 * (j + 1)) 0 ∧ Fr (fun k => k = rb) w w' := by
  have hd : (up8 (pk (pbits p))).drop (1 + (cb p.n).length + 8 * j) = nb x.toNat 8 ++ (up8 (p.data.drop (j + 1)) ++ List.replicate (pad p) false) := by
    rw [pdrop, Nat.sub_eq_zero_of_le (by omega), Nat.mul_zero, List.drop_zero]
    have : p.data.drop j = [x] ++ p.data.drop (j + 1) := by
      obtain ⟨h1, h2⟩ := List.getElem?_eq_some_iff.1 hx
      rw [List.drop_eq_getElem_cons h1, h2]; rfl
    rw [this, up8_append, List.append_assoc]; rfl
  refine (get_val h.rdr hd (by decide)).imp fun v w' ⟨e, k, f⟩ => ⟨?_, by rw [Nat.mul_add, ← Nat.add_assoc]; exact k, f⟩
  rw [e, Nat.mod_eq_of_lt x.toNat_lt]
theorem TlS.push (h : TlS w0 b2 rb pb p j w) (hj : j < p.data.length) {x : UInt8} (hx : p.data[j]? = some x) {w1 : World} (hr : RdrAt w1 (fun k => w0.heap.size < k ∧ k < pb) rb (pk (pbits p)) (1 + (cb p.n).length + 8 * (j + 1)) 0) (f : Fr (fun k => k = rb) w w1) {A : Option Addr} {c : Nat}
    (hb : Blk w pb 58 [.bool p.hd, .int .u64 (p.n : Int), .slice A j c]) (ho : Own w 5 1 (bw (pb + 1) w) A j c (bvs (p.data.take j))) (hl : p.data.length ≤ 200) :
    ∃ A' c' w2, (Builtin.append_ #[36, 36] 36 ⟨[.slice A j c, .slice (some ⟨w1.heap.size, 0, none⟩) 1 1]⟩).run Try.prog (w1.alloc (.cells ⟨[.int .u8 (x.toNat : Int)]⟩ 5)) = .ok (.slice A' (j + 1) c') w2 ∧
      (∃ u, w2.cell? ⟨pb, 2, none⟩ = some u) ∧ w2.frozen? ⟨pb, 2, none⟩ = false ∧ TlS w0 b2 rb pb p (j + 1) (w2.setCell ⟨pb, 2, none⟩ (.slice A' (j + 1) c')) := by
  have hrb := h.rblt
  have hpb := h.pblt
  have hs := f.size
  have o1 : Own w1 5 1 (bw (pb + 1) w1) A j c (bvs (p.data.take j)) := (ho.fr f fun k hk h1 e => by have := h1.1; have e : k = rb := e; omega).mono fun k hk h1 => ⟨h1.1, hk⟩
  obtain ⟨A', c', w2, r2, o2, f2, g2⟩ := app1 (ty := 36) Eby o1 (by omega) (.int .u8 (x.toNat : Int)) rfl (by omega) (by simp only [maxLen]; omega)
  have hs2 := g2.size
  have b1 := (hb.fr f (by omega)).fr g2 (fun h => by have h : pb + 1 ≤ pb := h; omega)
  have u1 := (h.out.fr f (by have := h.low.1; omega)).fr g2 (fun h' => by have h' : pb + 1 ≤ b2 := h'; have := h.low; omega)
  obtain ⟨⟨v1, v2⟩, b3, f3⟩ := b1.wr1 2 (by simp) (.slice A' (j + 1) c')
  have hs3 := f3.size
  have e2 : ∀ k, k = pb → ¬ bw (pb + 1) w2 k := fun k e h1 => by have := h1.1; omega
  refine ⟨A', c', w2, r2, v1, v2, ?_, ⟨A', c', b3, ?_⟩, u1.fr f3 (by have := h.low; omega), ⟨h.low.1, h.low.2.1, by omega⟩, h.bel.trans' ((f.bel fun k e => ?_).trans' ((g2.mono fun k _ hk => ?_).trans' (f3.bel fun k e => ?_)))⟩
  · refine (hr.fr g2 fun k _ h1 h2 => ?_).fr f3 fun k _ h1 h2 => ?_
    · have h2 : pb + 1 ≤ k := h2
      have := h1.2
      omega
    · have h2 : k = pb := h2
      have := h1.2
      omega
  · rw [List.take_add_one, hx]
    have eb : bvs (p.data.take j ++ [x]) = bvs (p.data.take j) ++ [.int .u8 (x.toNat : Int)] := by unfold bvs; rw [List.map_append]; rfl
    rw [show (some x).toList = [x] from rfl, eb]
    exact (o2.fr f3 fun k _ h1 h2 => e2 k h2 h1).mono fun k hk h1 => ⟨h1.1, hk⟩
  · have e : k = rb := e
    omega
  · have hk : pb + 1 ≤ k := hk
    show w0.heap.size ≤ k
    have := h.low
    omega
  · have e : k = pb := e
    have := h.low
    omega
end
def TakeQ (p : Pk) (w0 : World) (v : Value) (w' : World) : Prop := ∃ A' c', v = .tuple ⟨[.agg ⟨pcell p A' c'⟩, .int .i64 0]⟩ ∧ Own w' 5 1 (from1 w0.heap.size) A' p.data.length c' (bvs p.data) ∧ Fr none1 w0 w'
section
variable {w0 w : World} {b2 rb pb : Nat} {p : Pk} {j : Nat}
theorem take_k4 (h : TlS w0 b2 rb pb p p.data.length w) (hp : Pok p) : S19_k4 ⟨b2, 0, none⟩ (some ⟨rb, 0, none⟩) ⟨pb, 0, none⟩ w (TakeQ p w0) := by
  obtain ⟨h1, h2, h3⟩ := hp
  have hd : (up8 (pk (pbits p))).drop (1 + (cb p.n).length + 8 * p.data.length) = List.replicate (pad p) false := by
    rw [pdrop, List.drop_length, Nat.sub_self]; simp [up8]
  refine (end_ok h.rdr).use ?_
  rintro v w1 ⟨rfl, hr, f⟩
  have k := h.frz f
  rw [(end_pad hd (pad_lt p) (by rw [up8_length]; exact h.rdr.2.1)).1]
  obtain ⟨A, c, hb, ho⟩ := k.blk
  rw [List.take_length] at ho
  refine ⟨_, rfl, cF rfl ⟨_, _, _, hb.cell 2, cF (decide_eq_false (by omega)) ⟨_, hb.cell 1, ?_⟩⟩⟩
  rw [decide_eq_false (by omega : ¬ ((p.n : Nat) : Int) = 18446744073709551615)]
  obtain ⟨⟨a0, c0⟩, k1, f1⟩ := k.out.wr1 0 (by simp) (.bool p.hd)
  obtain ⟨⟨a1, c1⟩, k2, f2⟩ := k1.wr1 1 (by simp) (.int .u64 (p.n : Int))
  obtain ⟨⟨a2, c2⟩, k3, f3⟩ := k2.wr1 2 (by simp) (.slice A p.data.length c)
  have f13 := f1.trans' (f2.trans' f3)
  have hl := k.low
  refine cF rfl ⟨_, hb.cell 0, _, hb.cell 1, _, _, _, hb.cell 2, a0, c0, a1, c1, a2, c2, _, k3.cell 0, _, k3.cell 1, _, _, _, k3.cell 2, A, c, rfl, ?_, (k.bel.trans' (f13.bel fun k e => by have e : k = b2 := e; omega)).top⟩
  refine (ho.fr f13 fun k _ h1 e => ?_).mono fun k _ h1 => ?_
  · have e : k = b2 := e
    have := h1.1
    omega
  · have := h1.1
    show w0.heap.size ≤ k
    omega
end
def posM (rb : Nat) (w' : World) : Nat := 2000 - (match w'.cell? ⟨rb, 1, none⟩ with | some (.int .i64 i) => i.toNat | _ => 0)
theorem ltake_ok {w : World} {ok : Nat → Prop} {A : Option Addr} {c : Nat} {p : Pk} (h : Rd w ok A (bvs (layB p))) (hc : (layB p).length ≤ c) (hp : Pok p) : Ret Try.prog 19 [.slice A (layB p).length c] w (TakeQ p w) := by
  have hp' := hp
  obtain ⟨h1, h2, h3⟩ := hp'
  have hll := layB_len hp
  apply S19_calls
  have f0 : Fr none1 w (w.alloc (.cells ⟨[.bool false, .int .u64 0, .slice none 0 0]⟩ 58)) := Fr.alloc _ _
  have bt := Blk.new w 58 [.bool false, .int .u64 0, .slice none 0 0]
  have ea : (w.alloc (.cells ⟨[.bool false, .int .u64 0, .slice none 0 0]⟩ 58)).heap.size = w.heap.size + 1 := by simp
  have r0 := (h.mono (ok' := fun k => k < w.heap.size) fun k hk _ => hk).fr f0 fun _ _ _ h => h
  unfold S19
  generalize w.alloc (.cells ⟨[.bool false, .int .u64 0, .slice none 0 0]⟩ 58) = w1 at f0 bt ea r0 ⊢
  refine (open_ok r0 hc (by omega)).use ?_
  rintro v w2 ⟨A2, c2, rfl, o2, f2⟩
  rw [inner_bits hp] at o2 ⊢
  simp only [Option.getD_some, Option.isSome_some] at o2 ⊢
  refine ⟨_, _, _, _, rfl, cF rfl ?_⟩
  refine (rnew_ok o2.rd (by have := (pbits_len hp).2; omega)).use ?_
  rintro v w3 ⟨rb, rfl, k3, f3⟩
  refine ⟨_, rfl, ?_⟩
  have hd1 := pbits_full p
  refine (get_val (n := hb p) (k := 1) k3 (by rw [List.drop_zero]; exact hd1) (by decide)).use ?_
  rintro v w4 ⟨rfl, k4, f4⟩
  have hs2 := f2.size
  have hs3 := f3.size
  have hs4 := f4.size
  have hrb := k3.1
  have bt4 := ((bt.fr f2 fun h => h).fr f3 fun h => h).fr f4 (fun e => by have e : w.heap.size = rb := e; have := hrb.1; omega)
  have g4 : Bel w.heap.size w w4 := f0.bel0.trans' (f2.bel0.trans' (f3.bel0.trans' (f4.bel fun k e => by have e : k = rb := e; have := hrb.1; omega)))
  have k4' := k4.mono (ok' := fun k => w.heap.size < k ∧ k < w4.heap.size) fun k hk h => ⟨by have := h.1; omega, hk⟩
  have f5 : Fr none1 w4 (w4.alloc (.cells ⟨[.bool false, .int .u64 0, .slice none 0 0]⟩ 58)) := Fr.alloc _ _
  have b5 := Blk.new w4 58 [.bool false, .int .u64 0, .slice none 0 0]
  refine ⟨_, rfl, ?_⟩
  obtain ⟨⟨a6, c6⟩, b6, f6⟩ := b5.wr1 0 (by simp) (.bool (decide (((hb p % 2 ^ 1 : Nat) : Int) = 1)))
  obtain ⟨⟨a7, c7⟩, b7, f7⟩ := b6.wr1 1 (by simp) (.int .u64 0)
  obtain ⟨⟨a8, c8⟩, b8, f8⟩ := b7.wr1 2 (by simp) (.slice none 0 0)
  refine ⟨a6, c6, a7, c7, a8, c8, ?_⟩
  have f48 : Bel w4.heap.size w4 _ := f5.bel0.trans' ((f6.bel fun k e => by have e : k = _ := e; omega).trans' ((f7.bel fun k e => by have e : k = _ := e; omega).trans' (f8.bel fun k e => by have e : k = _ := e; omega)))
  have ehd : decide (((hb p % 2 ^ 1 : Nat) : Int) = 1) = p.hd := by unfold hb; cases p.hd <;> rfl
  rw [ehd] at b8 f48 ⊢
  generalize ((((w4.alloc (.cells ⟨[.bool false, .int .u64 0, .slice none 0 0]⟩ 58)).setCell ⟨w4.heap.size, 0, none⟩ (.bool p.hd)).setCell ⟨w4.heap.size, 1, none⟩ (.int .u64 0)).setCell ⟨w4.heap.size, 2, none⟩ (.slice none 0 0)) = w8 at b8 f48 ⊢
  have k8 := k4'.fr f48 fun k hk h1 h2 => by have h2 : w4.heap.size ≤ k := h2; have := h1.2; omega
  have bt8 := bt4.fr f48 (fun h2 => by have h2 : w4.heap.size ≤ w.heap.size := h2; omega)
  have g8 := g4.trans' (f48.mono fun k _ hk => by have hk : w4.heap.size ≤ k := hk; show w.heap.size ≤ k; omega)
  have hd2 : (up8 (pk (pbits p))).drop (0 + 1) = cb p.n ++ (up8 p.data ++ List.replicate (pad p) false) := by
    rw [hd1, List.drop_append_of_le_length (by rw [nb_length]; omega), List.drop_of_length_le (by rw [nb_length]; omega), List.nil_append]
  refine (rcount_val k8 hd2 (by omega)).use ?_
  rintro v w9 ⟨rfl, k9, f9⟩
  have b9 := b8.fr f9 (fun e => by have e : w4.heap.size = rb := e; have := k4'.lt; omega)
  obtain ⟨⟨a10, c10⟩, b10, f10⟩ := b9.wr1 1 (by simp) (.int .u64 (p.n : Int))
  have T0 : TlS w w.heap.size rb w4.heap.size p 0 (w9.setCell ⟨w4.heap.size, 1, none⟩ (.int .u64 (p.n : Int))) := by
    refine ⟨?_, ⟨none, 0, b10, Own.nil _ _ _ _⟩, (bt8.fr f9 (fun e => by have e : w.heap.size = rb := e; have := hrb.1; omega)).fr f10 (fun e => by have e : w.heap.size = w4.heap.size := e; omega), ⟨rfl, by omega, Nat.zero_le _⟩, g8.trans' ((f9.bel fun k e => by have e : k = rb := e; have := hrb.1; omega).trans' (f10.bel fun k e => by have e : k = _ := e; omega))⟩
    rw [Nat.mul_zero, Nat.add_zero]
    rw [Nat.zero_add] at k9
    exact k9.fr f10 fun k hk h1 e => by have e : k = w4.heap.size := e; have := h1.2; omega
  refine ⟨_, rfl, a10, c10, fun _ w' => ∃ j, TlS w w.heap.size rb w4.heap.size p j w', fun _ w' => posM rb w', ⟨0, T0⟩, ?_⟩
  have mu : ∀ {w6 w7 : World} {j : Nat}, TlS w w.heap.size rb w4.heap.size p j w6 → TlS w w.heap.size rb w4.heap.size p (j + 1) w7 → posM rb w7 < posM rb w6 := fun h h' => by
    have e1 := h.rdr.cells.2.1
    have e2 := h'.rdr.cells.2.1
    have l2 := h'.rdr.2.1
    have := pbits_len hp
    rw [add_g] at e1 e2
    unfold posM
    rw [e1, e2]
    dsimp only
    rw [Int.toNat_natCast, Int.toNat_natCast]
    omega
  rintro J ⟨⟩ w5 ⟨j, T⟩
  obtain ⟨A5, c5, hb5, ho5⟩ := T.blk
  refine ⟨_, hb5.cell 0, ?_⟩
  have fin : ∀ {w'}, TlS w w.heap.size rb w4.heap.size p j w' → j = p.data.length → ∀ {B}, S19_k2 ⟨w.heap.size, 0, none⟩ (some ⟨rb, 0, none⟩) ⟨w4.heap.size, 0, none⟩ false w' (TakeQ p w) B := fun T' e B => cF rfl (by subst e; exact take_k4 T' hp)
  cases hh : p.hd with
  | true =>
    refine cF rfl (fin T ?_)
    have := T.low.2.2
    rw [h3 hh] at this ⊢
    exact Nat.le_zero.1 this
  | false =>
    refine cT rfl ?_
    refine T.left.use ?_
    rintro v w6 ⟨rfl, T6⟩
    have := pad_lt p
    refine ⟨_, rfl, cD (fun hlt => ?_) (fun hlt => fin T6 (by have := T6.low.2.2; omega))⟩
    have hj : j < p.data.length := by omega
    obtain ⟨A6, c6', hb6, ho6⟩ := T6.blk
    have hx : p.data[j]? = some p.data[j] := List.getElem?_eq_getElem hj
    generalize p.data[j] = x at hx
    have hxl := x.toNat_lt
    have ew : IntKind.u8.wrap ((x.toNat : Nat) : Int) = ((x.toNat : Nat) : Int) := by simp [IntKind.wrap, IntKind.bits, IntKind.signed]; omega
    refine ⟨_, _, _, hb6.cell 2, cT (decide_eq_true (by omega)) ?_⟩
    have Td := T6.frz (Fr.drew w6)
    obtain ⟨Ad, cd, hbd, hod⟩ := Td.blk
    refine ⟨⟨_, _, _, hbd.cell 2, ?_⟩, ?_⟩
    · refine (Td.get hj hx).use ?_
      rintro v w7 ⟨rfl, kr, f⟩
      obtain ⟨A', c', w8, r8, u8, z8, T8⟩ := Td.push hj hx kr f hbd hod h2
      refine ⟨_, rfl, ?_⟩
      rw [ew]
      exact ⟨A', _, c', w8, r8, u8, z8, ⟨j + 1, T8⟩, mu T T8⟩
    · refine (Td.get hj hx).use ?_
      rintro v w7 ⟨rfl, kr, f⟩
      obtain ⟨A', c', w8, r8, u8, z8, T8⟩ := Td.push hj hx kr f hbd hod h2
      have hb7 := hbd.fr f (by have := Td.rblt; omega)
      refine ⟨_, rfl, ?_⟩
      rw [ew]
      exact ⟨_, _, _, hb7.cell 2, A', _, c', w8, r8, u8, z8, ⟨j + 1, T8⟩, mu T T8⟩
theorem ltake_nil (w : World) : Ret Try.prog 19 [.slice none 0 0] w fun v w' => v = .tuple ⟨[.agg ⟨[.bool false, .int .u64 0, .slice none 0 0]⟩, .int .i64 140]⟩ ∧ Fr none1 w w' := by
  apply S19_calls
  have f0 : Fr none1 w (w.alloc (.cells ⟨[.bool false, .int .u64 0, .slice none 0 0]⟩ 58)) := Fr.alloc _ _
  have bt := Blk.new w 58 [.bool false, .int .u64 0, .slice none 0 0]
  unfold S19
  generalize w.alloc (.cells ⟨[.bool false, .int .u64 0, .slice none 0 0]⟩ 58) = w1 at f0 bt ⊢
  refine (open_ok (xs := []) (ok := none1) (.inl rfl) (Nat.le_refl _) (by simp)).use ?_
  rintro v w2 ⟨A2, c2, rfl, o2, f2⟩
  have e : openB [] = none := by
    cases h : openB [] with
    | none => rfl
    | some ys =>
      have h2 := (openB_some.1 h).2
      have := congrArg List.length h2
      rw [framed_length] at this
      simp at this
  rw [e]
  have b2 := bt.fr f2 fun h => h
  obtain ⟨⟨a0, c0⟩, k1, f1⟩ := b2.wr1 0 (by simp) (.bool false)
  obtain ⟨⟨a1, c1⟩, k2, f2'⟩ := k1.wr1 1 (by simp) (.int .u64 0)
  obtain ⟨⟨a2, c2'⟩, k3, f3⟩ := k2.wr1 2 (by simp) (.slice none 0 0)
  have e0 : ∀ k, k = w.heap.size → w.heap.size ≤ k := fun k e => Nat.le_of_eq e.symm
  exact ⟨_, _, _, _, rfl, cT rfl ⟨a0, c0, a1, c1, a2, c2', _, k3.cell 0, _, k3.cell 1, _, _, _, k3.cell 2, rfl, (f0.bel0.trans' (f2.bel0.trans' ((f1.bel e0).trans' ((f2'.bel e0).trans' (f3.bel e0))))).top⟩⟩
end Go.Proofs
