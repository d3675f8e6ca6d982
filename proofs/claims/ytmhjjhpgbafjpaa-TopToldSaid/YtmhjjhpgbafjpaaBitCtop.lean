/- The writer of bits, and what a number of so many bits is for the reference: contracts. -/
import Derived.Test.YtmhjjhpgbafjpaaStop
import Derived.Test.YtmhjjhpgbafjpaaHp5
import Derived.Test.YtmhjjhpgbafjpaaBitN
set_option linter.unusedVariables false
namespace Go.Proofs
open Go Go.Eng
theorem Eby : ElT Try.prog 36 5 1 1 := elT_of (by kernel_rfl)
theorem Uby : Try.prog.underlying 36 = some (.slice 5) := by kernel_rfl
theorem Uu8 : Try.prog.underlying 5 = some (.int .u8) := by kernel_rfl
theorem Ustr : Try.prog.underlying 9 = some .string := by kernel_rfl
/-- Ok blocks, and any that come later. -/
def okp (ok : Nat → Prop) (w : World) : Nat → Prop := fun k => ok k ∨ w.heap.size ≤ k
def WrAt (w : World) (ok : Nat → Prop) (b : Nat) (L : List Bool) : Prop :=
  ok b ∧ L.length ≤ 1048576 ∧ ∃ A c, Blk w b 122 [.slice A ((L.length + 7) / 8) c, .int .i64 (L.length : Int)] ∧ Own w 5 1 ok A ((L.length + 7) / 8) c (bvs (pk L))
theorem WrAt.fr {F : Nat → Prop} {w w' : World} {ok : Nat → Prop} {b : Nat} {L : List Bool} (h : WrAt w ok b L) (hf : Fr F w w') (hd : ∀ k, k < w.heap.size → ok k → ¬ F k) : WrAt w' ok b L := by
  obtain ⟨h0, h1, A, c, h2, h3⟩ := h
  exact ⟨h0, h1, A, c, h2.fr hf (hd b h2.lt h0), h3.fr hf hd⟩
theorem WrAt.mono {w : World} {ok ok' : Nat → Prop} {b : Nat} {L : List Bool} (h : WrAt w ok b L) (hk : ∀ k, k < w.heap.size → ok k → ok' k) : WrAt w ok' b L := by
  obtain ⟨h0, h1, A, c, h2, h3⟩ := h
  exact ⟨hk b h2.lt h0, h1, A, c, h2, h3.mono hk⟩
theorem WrAt.lt {w : World} {ok : Nat → Prop} {b : Nat} {L : List Bool} (h : WrAt w ok b L) : b < w.heap.size := by
  obtain ⟨_, _, A, c, h2, _⟩ := h
  exact h2.lt
theorem wnew_ok (w : World) : Ret Try.prog 43 [] w fun v w' => v = .pointer (some ⟨w.heap.size, 0, none⟩) ∧ WrAt w' (from1 w.heap.size) w.heap.size [] ∧ Fr none1 w w' := by
  apply S43_calls
  exact ⟨rfl, ⟨Nat.le_refl _, by simp, none, 0, Blk.new w 122 _, Own.nil _ _ _ _⟩, Fr.alloc _ _⟩
/-- What a writer has when it lays a bit: its row, with a byte 0 where the bit begins one. -/
def MidAt (w : World) (ok : Nat → Prop) (b : Nat) (L : List Bool) : Prop :=
  ok b ∧ L.length < 1048576 ∧ ∃ A c, Blk w b 122 [.slice A (L.length / 8 + 1) c, .int .i64 (L.length : Int)] ∧ Own w 5 1 ok A (L.length / 8 + 1) c (bvs (base L))
theorem bit_k1 {w0 w : World} {ok : Nat → Prop} {b n : Nat} {A : Option Addr} {c : Nat} {L : List Bool} {x : Bool} {R : Value → World → Prop} (hb : Blk w b 122 [.slice A n c, .int .i64 (L.length : Int)]) (hn : n = ((L ++ [x]).length + 7) / 8) (hr : Own w 5 1 ok A n c (bvs (pk (L ++ [x])))) (h0 : ok b) (hl : L.length < 1048576)
    (k : ∀ w', WrAt w' ok b (L ++ [x]) → Fr (fun k => k = b) w w' → R (.tuple ⟨[]⟩) w') : S69_k1 (some ⟨b, 0, none⟩) w R := by
  have c1 : w.cell? ((⟨b, 0, none⟩ : Addr).add 1) = some (.int .i64 (L.length : Int)) := by rw [add_g]; exact (hb.cell 1).trans rfl
  have b2 := hb.set 1 (.int .i64 ((L.length : Int) + 1))
  have f2 := Fr.setCell (F := fun k => k = b) w (p := ⟨b, 1, none⟩) rfl (.int .i64 ((L.length : Int) + 1))
  refine ⟨_, rfl, _, c1, _, rfl, ⟨_, c1⟩, by rw [add_g]; exact hb.free 1, ?_⟩
  rw [IntWalk.i64_in ((L.length : Int) + 1) (by omega), add_g]
  subst hn
  refine k _ ⟨h0, by simp; omega, A, c, by simpa using b2, hr.fr1 f2 fun a ha => hr.ne_blk hb (by decide) a ha⟩ f2
theorem bit_k0 {w : World} {ok : Nat → Prop} {b : Nat} {L : List Bool} {x : Bool} {R : Value → World → Prop} (h : MidAt w ok b L)
    (k : ∀ w', WrAt w' ok b (L ++ [x]) → Fr ok w w' → R (.tuple ⟨[]⟩) w') : S69_k0 (some ⟨b, 0, none⟩) x w R := by
  obtain ⟨h0, hl, A, c, hb, ho⟩ := h
  have hn : L.length / 8 + 1 = ((L ++ [x]).length + 7) / 8 := by simp; omega
  cases x with
  | false =>
    refine cF rfl (bit_k1 (w0 := w) (x := false) hb hn (by rw [pk_snoc0]; exact ho) h0 hl fun w' h1 f1 => k w' h1 (f1.mono fun _ _ e => e ▸ h0))
  | true =>
    have fd : Fr none1 w w.drew := Fr.drew w
    replace hb := hb.fr fd (fun h => h)
    replace ho := ho.fr fd (fun _ _ _ h => h)
    refine cT rfl ?_
    have k' : ∀ w', WrAt w' ok b (L ++ [true]) → Fr ok w.drew w' → R (.tuple ⟨[]⟩) w' := fun w' h1 f1 => k w' h1 ((fd.mono fun _ _ h => h.elim).trans' f1)
    unfold WrAt at k'
    generalize w.drew = w1 at hb ho k' ⊢
    have c0 : w1.cell? ⟨b, 0, none⟩ = some (.slice A (L.length / 8 + 1) c) := (hb.cell 0).trans rfl
    have c1 : w1.cell? ((⟨b, 0, none⟩ : Addr).add 1) = some (.int .i64 (L.length : Int)) := by rw [add_g]; exact (hb.cell 1).trans rfl
    have e8 : IntKind.i64.wrap (Int.tdiv (L.length : Int) 8) = ((L.length / 8 : Nat) : Int) := by
      rw [Int.tdiv_eq_ediv_of_nonneg (by omega), IntWalk.i64_in _ (by omega)]; omega
    have e9 : Int.tmod (L.length : Int) 8 = ((L.length % 8 : Nat) : Int) := by
      rw [Int.tmod_eq_emod_of_nonneg (by omega)]; omega
    have e10 : Int.toNat (IntKind.i64.wrap (Int.tdiv (L.length : Int) 8)) * 1 = L.length / 8 := by rw [e8]; omega
    obtain ⟨g, rfl, _, _⟩ := ho.form (by omega)
    have hx : (bvs (base L))[L.length / 8]? = some (.int .u8 ((byteAt L (L.length / 8) : Nat) : Int)) := by
      rw [bvs_get (base_get L (Nat.le_refl _))]
      have := byteAt_lt L (L.length / 8)
      simp [bv]; omega
    obtain ⟨a, ha, _, cx⟩ := ho.rd.at hx
    cases ha
    have hlen := base_length L
    obtain ⟨s1, s2⟩ := ho.store (j := L.length / 8) (by rw [bvs_length]; omega)
    rw [add_g] at cx
    obtain ⟨v1, v2⟩ := or8 (byteAt_lt L (L.length / 8)) (r := L.length % 8) (by omega) (byteAt_mod L)
    have o2 := ho.set (L.length / 8) (.int .u8 ((byteAt L (L.length / 8) + 2 ^ (7 - L.length % 8) : Nat) : Int))
    rw [u8_set _ _ _ v2] at o2
    have o3 : (base L).set (L.length / 8) (UInt8.ofNat (byteAt L (L.length / 8) + 2 ^ (7 - L.length % 8))) = pk (L ++ [true]) := by rw [pk_snoc]; simp
    rw [o3] at o2
    have f2 := Fr.setCell (F := ok) w1 (p := ⟨g, L.length / 8, none⟩) (by obtain ⟨_, h⟩ := ho.has _ rfl; exact (ho.has _ rfl).1) (.int .u8 ((byteAt L (L.length / 8) + 2 ^ (7 - L.length % 8) : Nat) : Int))
    have hne : g ≠ b := fun e => ho.ne_blk hb (by decide) _ rfl e
    have b2 := hb.other (p := ⟨g, L.length / 8, none⟩) hne (.int .u8 ((byteAt L (L.length / 8) + 2 ^ (7 - L.length % 8) : Nat) : Int))
    have fin : S69_k1 (some ⟨b, 0, none⟩) (w1.setCell ⟨g, L.length / 8, none⟩ (.int .u8 (bitsI .or .u8 ((byteAt L (L.length / 8) : Nat) : Int) (Int.fdiv 128 (2 ^ (min (Int.toNat ((L.length % 8 : Nat) : Int)) (IntKind.u8.bits))))))) R := by
      rw [v1]
      exact bit_k1 (w0 := w) (x := true) b2 hn o2 h0 hl fun w' h1 f1 => k' w' h1 (f2.trans' (f1.mono fun _ _ e => e ▸ h0))
    rw [← e9] at fin
    have s0 : (0 : Int) ≤ Int.tmod (L.length : Int) 8 := by rw [e9]; omega
    have d0 : (0 : Int) ≤ IntKind.i64.wrap (Int.tdiv (L.length : Int) 8) := by rw [e8]; omega
    have d1 : IntKind.i64.wrap (Int.tdiv (L.length : Int) 8) < ((L.length / 8 + 1 : Nat) : Int) := by rw [e8]; omega
    have n8 : (8 : Int) ≠ 0 := by decide
    have q1 : w1.cell? ((⟨g, 0, none⟩ : Addr).add (Int.toNat (IntKind.i64.wrap (Int.tdiv (L.length : Int) 8)) * 1)) = some (.int .u8 ((byteAt L (L.length / 8) : Nat) : Int)) := by rw [e10, add_g]; exact cx
    have q2 : ∃ u, w1.cell? ((⟨g, 0, none⟩ : Addr).add (Int.toNat (IntKind.i64.wrap (Int.tdiv (L.length : Int) 8)) * 1)) = some u := ⟨_, q1⟩
    have q3 : w1.frozen? ((⟨g, 0, none⟩ : Addr).add (Int.toNat (IntKind.i64.wrap (Int.tdiv (L.length : Int) 8)) * 1)) = false := by rw [e10, add_g]; exact s2
    have fin' : S69_k1 (some ⟨b, 0, none⟩) (w1.setCell ((⟨g, 0, none⟩ : Addr).add (Int.toNat (IntKind.i64.wrap (Int.tdiv (L.length : Int) 8)) * 1)) (.int .u8 (bitsI .or .u8 ((byteAt L (L.length / 8) : Nat) : Int) (Int.fdiv 128 (2 ^ (min (Int.toNat (Int.tmod (L.length : Int) 8)) (IntKind.u8.bits))))))) R := by
      rw [e10, add_g]; exact fin
    refine ⟨_, rfl, _, rfl, _, rfl, ⟨_, _, _, c0, ?_, ?_⟩, ?_, ?_⟩
    · exact ⟨_, c1, n8, _, rfl, d0, d1, _, c1, n8, s0, _, q1, _, rfl, d0, d1, q2, q3, fin'⟩
    · exact ⟨_, c1, n8, s0, _, c1, n8, _, rfl, d0, d1, _, q1, _, rfl, d0, d1, q2, q3, fin'⟩
    · exact ⟨_, c1, n8, _, c1, n8, s0, _, _, _, c0, _, rfl, d0, d1, _, q1, _, rfl, d0, d1, q2, q3, fin'⟩
    · exact ⟨_, c1, n8, s0, _, c1, n8, _, _, _, c0, _, rfl, d0, d1, _, q1, _, rfl, d0, d1, q2, q3, fin'⟩
theorem bit_ok {w : World} {ok : Nat → Prop} {b : Nat} {L : List Bool} (h : WrAt w ok b L) (hl : L.length < 1048576) (x : Bool) :
    Ret Try.prog 69 [.pointer (some ⟨b, 0, none⟩), .bool x] w fun v w' => v = .tuple ⟨[]⟩ ∧ WrAt w' (okp ok w) b (L ++ [x]) ∧ Fr ok w w' := by
  obtain ⟨h0, _, A, c, hb, ho⟩ := h
  apply S69_calls
  have c0 : w.cell? ⟨b, 0, none⟩ = some (.slice A ((L.length + 7) / 8) c) := (hb.cell 0).trans rfl
  have c1 : w.cell? ((⟨b, 0, none⟩ : Addr).add 1) = some (.int .i64 (L.length : Int)) := by rw [add_g]; exact (hb.cell 1).trans rfl
  refine ⟨_, rfl, _, c1, by decide, ?_⟩
  have e9 : Int.tmod (L.length : Int) 8 = ((L.length % 8 : Nat) : Int) := by
    rw [Int.tmod_eq_emod_of_nonneg (by omega)]; omega
  refine cD (fun hm => ?_) (fun hm => ?_)
  · have hm' : L.length % 8 = 0 := by omega
    have a2 : Fr none1 w (w.alloc (.cells ⟨[.int .u8 0]⟩ 5)) := Fr.alloc _ _
    have lit := Own.lit w 5 1 1 [.int .u8 0] rfl (by simp [maxLen])
    have hmx := ho.max
    obtain ⟨A', c', w2, r2, o2, f2, _⟩ := run_append (ty := 36) (m := 1) (c2 := 1) Eby (ho.fr a2 fun _ _ _ h => h) rfl lit.rd (fun v hv => by simp at hv; subst hv; rfl) (by omega) (by simp only [maxLen]; omega)
    have ff : Fr (ownAt A) w w2 := (a2.mono fun _ _ h => h.elim).trans' f2
    have b2 := hb.fr ff (fun ⟨a, ha, e⟩ => ho.ne_blk hb (by decide) a ha e)
    refine ⟨_, rfl, _, _, _, c0, _, _, _, w2, r2, _, rfl, b2.has 0 (by simp), b2.free 0, ?_⟩
    have b3 := b2.set 0 (.slice A' ((L.length + 7) / 8 + 1) c')
    have f3 := Fr.setCell (F := fun k => k = b) w2 (p := ⟨b, 0, none⟩) rfl (.slice A' ((L.length + 7) / 8 + 1) c')
    have hA : ∀ k, ownAt A k → ok k := fun k ⟨a, ha, e⟩ => e ▸ (ho.has a ha).1
    have fall : Fr ok w (w2.setCell ⟨b, 0, none⟩ (.slice A' ((L.length + 7) / 8 + 1) c')) := (ff.mono fun k _ h => hA k h).trans' (f3.mono fun _ _ e => e ▸ h0)
    have hs : w.heap.size ≤ (w.alloc (.cells ⟨[.int .u8 0]⟩ 5)).heap.size := a2.size
    have e7 : (L.length + 7) / 8 = L.length / 8 := by omega
    refine bit_k0 (ok := okp ok w) ⟨.inl h0, hl, A', c', ?_, ?_⟩ fun w' h1 f1 => ⟨rfl, h1, fall.trans f1 fun k hk h => ?_⟩
    · rw [e7] at b3 ⊢; exact b3
    · have o3 := o2.fr1 f3 fun a ha => o2.ne_blk b2 (by decide) a ha
      have : bvs (pk L) ++ [Value.int .u8 0] = bvs (base L) := by rw [base_eq L hm']; simp [bvs, bv]
      rw [this, e7] at o3
      rw [e7]
      exact o3.mono fun k _ h => by
        rcases h with h | h
        · exact .inl h
        · exact .inr (Nat.le_trans hs h)
    · rcases h with h | h
      · exact h
      · omega
  · have hm' : L.length % 8 ≠ 0 := by omega
    have e7 : (L.length + 7) / 8 = L.length / 8 + 1 := by omega
    rw [e7] at hb ho
    refine bit_k0 (ok := ok) ⟨h0, hl, A, c, hb, by rw [base_ne L hm']; exact ho⟩ fun w' h1 f1 => ⟨rfl, h1.mono fun k _ h => .inl h, f1⟩
end Go.Proofs
