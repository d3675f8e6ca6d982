import Derived.Test.YtgcoecbbgipgpaaHeapI
import Derived.Test.YtgcoecbbgipgpaaMapK2
set_option linter.unusedVariables false
namespace Go.Proofs
open Go Go.Eng
theorem U3' : Try.prog.underlying 3 = some (.int .i64) := by kernel_rfl
theorem U41 : Try.prog.underlying 41 = some (.map 3 3) := by kernel_rfl
theorem Z3 (w : World) : (zeroValue 3).run Try.prog w = .ok (.int .i64 0) w := by kernel_rfl
theorem K3 : Maps.Keyed Try.prog 3 := Maps.int_keyed U3'
def CK (S : List En) (k : Int) : Int := ((S.map (·.1)).count k : Int)
theorem CK_ins (x : En) (S : List En) (k : Int) : CK (insE x S) k = CK S k + (if x.1 = k then 1 else 0) := by
  unfold CK
  rw [((insE_perm x S).map (·.1)).count_eq, List.map_cons, List.count_cons]
  split
  · rename_i h; simp at h; rw [if_pos h]; omega
  · rename_i h; simp at h; rw [if_neg h]; omega
theorem CK_cons (x : En) (S : List En) (k : Int) : CK (x :: S) k = CK S k + (if x.1 = k then 1 else 0) := by
  unfold CK
  rw [List.map_cons, List.count_cons]
  split
  · rename_i h; simp at h; rw [if_pos h]; omega
  · rename_i h; simp at h; rw [if_neg h]; omega
theorem CK_le (S : List En) (k : Int) : 0 ≤ CK S k ∧ CK S k ≤ S.length := by
  unfold CK
  have := List.count_le_length (a := k) (l := S.map (·.1))
  rw [List.length_map] at this
  omega
/-- A key that is there is no less than the first. -/
theorem CK_min {e : En} {S : List En} (h : Srt (e :: S)) {k : Int} (hk : 0 < CK (e :: S) k) : e.1 ≤ k := by
  unfold CK at hk
  have hm : k ∈ (e :: S).map (·.1) := List.count_pos_iff.1 (by omega)
  obtain ⟨x, hx, rfl⟩ := List.mem_map.1 hm
  rcases List.mem_cons.1 hx with rfl | hx
  · exact Int.le_refl _
  · have := (List.pairwise_cons.1 h).1 x hx
    unfold lt at this; omega
def KeysAt (w : World) (m n : Nat) (S : List En) : Prop := MapAt w Try.prog 3 3 m n (intK (CK S))
theorem KeysAt.look {w : World} {m n : Nat} {S : List En} (h : KeysAt w m n S) {k : Int} (hk : inI k) : (Instr.lookup 41 (.map (some m)) (.int .i64 k) false).run Try.prog w = .ok (.int .i64 (CK S k)) w :=
  MapAt.lookup h K3 U41 U3' Z3 (key_int U3' hk) trivial
theorem KeysAt.turn {w : World} {m n : Nat} {S S' : List En} (h : KeysAt w m n S) {k : Int} (hk : inI k) (hn : n ≤ 100000) {v : Int} (hv : v = CK S' k) (hb : S'.length ≤ 100000) (ho : ∀ j, j ≠ k → CK S' j = CK S j) :
    ∃ w', (Instr.mapUpdate 41 (.map (some m)) (.int .i64 k) (.int .i64 v)).run Try.prog w = .ok () w' ∧ KeysAt w' m (n + 1) S' ∧ Fr (fun b => b = m) w w' := by
  have hc := CK_le S' k
  refine MapAt.update h K3 U41 U3' (by simp only [maxLen]; omega) (key_int U3' hk) trivial ?_ hv.symm ?_
  · subst hv; simp [Lit.wf, IntKind.min, IntKind.max, IntKind.bits, IntKind.signed]; omega
  · intro l hl
    cases l <;> try rfl
    rename_i q j
    cases q <;> try rfl
    exact ho j (fun e => hl (by rw [e]))
def HK (B : Nat) (w : World) (hp m n k : Nat) (S : List En) : Prop := HeapIs B w hp S k ∧ KeysAt w m n S ∧ B ≤ m ∧ ∀ e ∈ S, inI e.1
theorem HK.fr0 {B : Nat} {w w' : World} {hp m n k : Nat} {S : List En} (h : HK B w hp m n k S) (f : Fr none1 w w') : HK B w' hp m n k S := ⟨h.1.fr0 f, MapAt.fr h.2.1 f (fun h => h), h.2.2⟩
theorem hd_inI {S : List En} (h : ∀ e ∈ S, inI e.1) (hne : S.isEmpty = false) : inI (hd S).1 := by
  cases S with
  | nil => cases hne
  | cons e S => exact h e (by simp)
section
variable {W : World} {hp m : Nat}
/-- The loop over the keys. -/
theorem least_range {R : Value → World → Prop} {B1 : Int × Int × Unit → World → Prop} {w : World} {S : List En} {A : Option Addr} {l c x mm k : Nat} {a : Int} {n : Nat} (h : HK W.heap.size w hp m mm k S) (hb : Blk w x 32 (it2 (hd S))) (hB : W.heap.size ≤ w.heap.size) (hn : (n : Int) + 1 ≤ 1000)
    (K : ∀ w', Fr none1 w w' → B1 ((S.length : Int), (n : Int) + 1, ()) w') :
    S5_k5 true (some ⟨hp, 0, none⟩) (some m) (S.length : Int) ⟨x, 0, none⟩ (!S.isEmpty) A l c a (n : Int) w R B1 := by
  obtain ⟨w1, cnt, hrun, hr, f1⟩ := h.2.1.range K3 U41
  refine ⟨w1, hrun, ?_⟩
  have hrl : m < w.heap.size := h.2.1.lt
  have hgw : w.heap.size < w1.heap.size ∨ True := .inr trivial
  refine ⟨fun _ w' => ∃ cnt, RangeAt w' Try.prog 3 3 m w.heap.size mm (intK (CK S)) cnt ∧ Fr none1 w w', fun _ w' => w'.rangeLeft m w.heap.size, ⟨cnt, hr, f1⟩, ?_⟩
  rintro J ⟨⟩ w2 ⟨cnt2, hr2, f2⟩
  rcases hr2.next K3 U3' 0 with hrun2 | ⟨key, kl, w3, cnt3, hk, hkl, hrun2, hr3, hc3, f3, hent⟩
  · refine .inl ⟨w2, hrun2, ?_⟩
    rw [IntWalk.i64_in ((n : Int) + 1) (by omega)]
    exact K w2 f2
  · obtain ⟨ki, rfl, rfl⟩ := key_int_inv U3' hk
    have f23 : Fr none1 w w3 := f2.trans f3 fun q hq e => by subst e; omega
    refine .inr ⟨ki, CK S ki, w3, hrun2, ki, CK S ki, w3, hent, ?_⟩
    have fin : S5_k8 true (some ⟨hp, 0, none⟩) (some m) (S.length : Int) ⟨x, 0, none⟩ (!S.isEmpty) A l c a (n : Int) ⟨w.heap.size, 0, none⟩ false w3 R B1 (fun s' w'' => (∃ cnt, RangeAt w'' Try.prog 3 3 m w.heap.size mm (intK (CK S)) cnt ∧ Fr none1 w w'') ∧ w''.rangeLeft m w.heap.size < w2.rangeLeft m w.heap.size) := by
      refine cF rfl ⟨⟨cnt3, hr3, f23⟩, ?_⟩
      rw [hr3.left_eq, hr2.left_eq]; exact hc3
    have hc := CK_le S ki
    refine cF (by simp; exact hc.1) ?_
    cases S with
    | nil => exact cF rfl fin
    | cons e S =>
      refine cT rfl (cD (fun hpos => ?_) (fun _ => fin))
      have hb3 := hb.fr f23 (fun h => h)
      refine ⟨e.1, (hb3.cell 0).trans rfl, ?_⟩
      have hmin := CK_min h.1.2.2.1 hpos
      rw [decide_eq_false (show ¬ ki < e.1 by omega)]
      exact fin
/-- The end of a step: peek, and the keys. -/
theorem least_end {B1 : Int × Int × Unit → World → Prop} {w : World} {S : List En} {A : Option Addr} {l c mm k : Nat} {a : Int} {n : Nat} (h : HK W.heap.size w hp m mm k S) (hB : W.heap.size ≤ w.heap.size) (hn : (n : Int) + 1 ≤ 1000) (hl : S.length ≤ 1000)
    (K : ∀ w', Fr none1 w w' → B1 ((S.length : Int), (n : Int) + 1, ()) w') :
    S5_k3 true (some ⟨hp, 0, none⟩) (some m) (S.length : Int) A l c a (n : Int) w (Done W) B1 := by
  refine (peek_ok h.1).use ?_
  rintro v w1 ⟨rfl, f1⟩
  obtain ⟨p1, p2, p3, p4, b2, f2⟩ := cp2 w1 32 (.int .i64 0) (.int .i64 0) (.int .i64 (hd S).1) (.int .i64 (hd S).2)
  refine ⟨_, _, _, rfl, p1, p2, p3, p4, ?_⟩
  have f02 := f1.trans' f2
  generalize World.setCell _ _ _ = w2 at b2 f2 f02 ⊢
  generalize w1.heap.size = x at b2 ⊢
  have h2 := h.fr0 f02
  have e0 : (!S.isEmpty) = decide ((0 : Int) < (S.length : Int)) := by cases S <;> simp
  have K2 : ∀ w', Fr none1 w2 w' → B1 ((S.length : Int), (n : Int) + 1, ()) w' := fun w' f => K w' (f02.trans' f)
  have hB2 := Nat.le_trans hB f02.size
  refine cF (by rw [e0]; simp) ?_
  refine (len_ok h2.1).use ?_
  rintro v w2 ⟨rfl, rfl⟩
  refine ⟨_, rfl, cF (by simp) ?_⟩
  have last : S5_k4 true (some ⟨hp, 0, none⟩) (some m) (S.length : Int) ⟨x, 0, none⟩ (!S.isEmpty) A l c a (n : Int) false w2 (Done W) B1 := cF rfl (least_range h2 b2 hB2 hn K2)
  refine cB (fun hne => ?_) (fun _ => last)
  have hne' : S.isEmpty = false := by simpa using hne
  have hin := hd_inI h.2.2.2 hne'
  refine ⟨_, (b2.cell 0).trans rfl, _, _, h2.2.1.look hin, ?_⟩
  have : decide (CK S (hd S).1 < 1) = false := by
    rw [decide_eq_false]
    cases S with
    | nil => cases hne'
    | cons e S =>
      show ¬ CK (e :: S) e.1 < 1
      rw [CK_cons, if_pos rfl]
      have := CK_le S e.1
      omega
  rw [this]
  exact last
theorem heapLeast_ok {A : Option Addr} {l c : Nat} {al : List HAct} (h : RowAt W.heap.size 3 (ActQ W) A al) (hl : al.length = l) (hc : l ≤ c) : Ret Try.prog 5 [.slice A l c] W (Done W) := by
  apply S5_calls
  refine (shown_ok _).use ?_
  rintro v w1 ⟨rfl, f1⟩
  refine ⟨_, rfl, ?_⟩
  refine (new_ok w1 f1.size).use ?_
  rintro v w2 ⟨hp, rfl, h2, f2⟩
  refine ⟨_, rfl, cF rfl ?_⟩
  have gg : Bel W.heap.size W w2 := f1.bel0.trans' f2.bel0
  have a0 : Fr none1 w2 (w2.alloc (.map #[] 0)) := Fr.alloc _ _
  have m2 : KeysAt (w2.alloc (.map #[] 0)) w2.heap.size 0 [] := by
    have h := MapAt.made w2 Try.prog 3 3
    have e : intK (CK []) = fun _ => 0 := by
      funext l; cases l <;> try rfl
      rename_i q j; cases q <;> rfl
    unfold KeysAt
    rw [e]; exact h
  have b2 : HK W.heap.size (w2.alloc (.map #[] 0)) hp w2.heap.size 0 0 [] := ⟨h2.fr0 a0, m2, gg.size, by simp⟩
  have g2 := gg.trans' a0.bel0
  show Calls Try.prog 12 ⟨[.slice A l c]⟩ (w2.alloc (.map #[] 0)) _
  generalize w2.heap.size = m at b2 ⊢
  generalize w2.alloc (.map #[] 0) = w2 at b2 g2 ⊢
  refine (few_ok h hl hc).use ?_
  rintro v w2 ⟨rfl, n1, d1, bs, rfl, hbl, hb300, hrow⟩
  refine ⟨_, _, _, rfl, ?_⟩
  refine ⟨fun s w' => ∃ (n k mm : Nat) (S : List En), s.2.1 = (n : Int) ∧ n ≤ n1 ∧ k ≤ n ∧ mm ≤ n ∧ s.1 = (S.length : Int) ∧ Bel W.heap.size W w' ∧ HK W.heap.size w' hp m mm k S, fun s _ => n1 - s.2.1.toNat, ⟨0, 0, 0, [], rfl, Nat.zero_le _, Nat.le_refl _, Nat.le_refl _, rfl, g2, b2⟩, ?_⟩
  rintro J ⟨len, i, ⟨⟩⟩ w3 ⟨n, k, mm, S, hi, hn, hk, hmm, hlen, g3, b3⟩
  dsimp only at hi hlen ⊢
  subst hi hlen
  refine cD (fun hlt => ?_) (fun hlt => ?_)
  · have hx : bs[n]? = some bs[n] := List.getElem?_eq_getElem (by omega)
    obtain ⟨a, ha, hab, hq⟩ := hrow n _ hx
    obtain ⟨q1, q2, q3, q4, q5⟩ := hq.fr (Nat.le_refl _) (by rw [add_block]; exact hab) g3
    refine ⟨a, ha, by omega, by omega, _, by rw [Int.toNat_natCast]; exact q1, _, by rw [Int.toNat_natCast]; exact q2, _, by rw [Int.toNat_natCast]; exact q3, ?_⟩
    obtain ⟨p1, p2, p3, p4, p5, p6, b4, f4⟩ := cp3 w3 34 (.bool false) (.int .i64 0) (.int .i64 0) (.bool bs[n].1) (.int .i64 bs[n].2.1) (.int .i64 bs[n].2.2)
    refine ⟨p1, p2, p3, p4, p5, p6, ?_⟩
    generalize World.setCell _ _ _ = w4 at b4 f4 ⊢
    generalize w3.heap.size = p at b4 ⊢
    have g4 := g3.trans' f4.bel0
    obtain ⟨H4, M4, hm, hI⟩ := b3.fr0 f4
    have hlen4 := H4.2.2.2.2
    refine ⟨_, (b4.cell 0).trans rfl, ?_⟩
    have fin : ∀ w6 k' mm' S', HK W.heap.size w6 hp m mm' k' S' → k' ≤ n + 1 → mm' ≤ n + 1 → Bel W.heap.size w4 w6 →
        S5_k3 true (some ⟨hp, 0, none⟩) (some m) (S'.length : Int) A n1 d1 (n1 : Int) (n : Int) w6 (Done W) (fun s' w'' => (∃ (n k mm : Nat) (S : List En), s'.2.1 = (n : Int) ∧ n ≤ n1 ∧ k ≤ n ∧ mm ≤ n ∧ s'.1 = (S.length : Int) ∧ Bel W.heap.size W w'' ∧ HK W.heap.size w'' hp m mm k S) ∧ n1 - s'.2.1.toNat < n1 - (n : Int).toNat) := by
      intro w6 k' mm' S' b6 hk' hmm' g6
      have gw6 := g4.trans' g6
      have := b6.1.2.2.2.2
      exact least_end b6 gw6.size (by omega) (by omega) fun w7 f7 => ⟨⟨n + 1, k', mm', S', rfl, by omega, hk', hmm', rfl, gw6.trans' f7.bel0, b6.fr0 f7⟩, by dsimp only; omega⟩
    have heapNo : ∀ (w w0 : World) {ts : List Nat}, KeysAt w m mm S → hpF W.heap.size w0 m → (∀ k, hasTy w0 ts k → hasTy w ts k) → True := fun _ _ _ _ _ _ => trivial
    refine cB (fun hg => ?_) (fun hg => ?_)
    · refine (pop_ok H4 (by omega)).use ?_
      rintro v w5 ⟨rfl, H5, f5⟩
      have M5 : KeysAt w5 m mm S := MapAt.fr M4 f5 fun hk => MapAt.notTy M4 [52, 56] hk.2
      obtain ⟨r1, r2, r3, r4, b6, f6⟩ := cp2 w5 32 (.int .i64 0) (.int .i64 0) (.int .i64 (hd S).1) (.int .i64 (hd S).2)
      refine ⟨_, _, _, rfl, r1, r2, r3, r4, ?_⟩
      generalize World.setCell _ _ _ = w6 at b6 f6 ⊢
      generalize w5.heap.size = x at b6 ⊢
      have M6 : KeysAt w6 m mm S := MapAt.fr M5 f6 (fun h => h)
      have H6 := H5.fr0 f6
      have g6 := (hpF_bel f5).trans' f6.bel0
      cases S with
      | nil => exact cF rfl (fin w6 k mm [] ⟨H6, M6, hm, by simp⟩ (by omega) (by omega) g6)
      | cons e S =>
        have hin := hI e (by simp)
        have hc := CK_le (e :: S) e.1
        simp only [List.length_cons] at hlen4 hc
        refine cT rfl ⟨e.1, (b6.cell 0).trans rfl, _, _, M6.look hin, ?_⟩
        rw [IntWalk.i64_in (CK (e :: S) e.1 - 1) (by omega), IntWalk.i64_in (((e :: S).length : Int) - 1) (by simp only [List.length_cons]; omega)]
        obtain ⟨w7, r7, M7, f7⟩ := M6.turn (S' := S) hin (by omega) (v := CK (e :: S) e.1 - 1) (by rw [CK_cons, if_pos rfl]; omega) (by omega) (fun j hj => by rw [CK_cons, if_neg (fun h => hj h.symm)]; omega)
        refine ⟨w7, r7, ?_⟩
        have H7 := HeapIs.frT H6 f7 (fun q hq e => by subst e; exact MapAt.notTy M6 _)
        have := fin w7 k (mm + 1) S ⟨H7, M7, hm, fun y hy => hI y (List.mem_cons_of_mem _ hy)⟩ (by omega) (by omega) (g6.trans' (f7.bel fun q e => by subst e; exact hm))
        rwa [show (((e :: S).length : Nat) : Int) - 1 = (S.length : Int) by simp only [List.length_cons]; omega]
    · refine ⟨_, (b4.cell 1).trans rfl, _, (b4.cell 2).trans rfl, ?_⟩
      refine (push_ok H4 g4.size (by omega) (bs[n].2.1, bs[n].2.2)).use ?_
      rintro v w5 ⟨rfl, H5, f5⟩
      have b5 := b4.fr f5 (fun hk => hpF_no (ts := [34]) (by decide) (by decide) _ hk (b4.hasTy (by decide)))
      have M5 : KeysAt w5 m mm S := MapAt.fr M4 f5 fun hk => MapAt.notTy M4 [52, 56] hk.2
      have hc := CK_le S bs[n].2.1
      refine ⟨rfl, _, (b5.cell 1).trans rfl, _, _, M5.look q4, ?_⟩
      rw [IntWalk.i64_in (CK S bs[n].2.1 + 1) (by omega), IntWalk.i64_in ((S.length : Int) + 1) (by omega)]
      obtain ⟨w7, r7, M7, f7⟩ := M5.turn (S' := insE (bs[n].2.1, bs[n].2.2, (k : Int)) S) q4 (by omega) (v := CK S bs[n].2.1 + 1) (by rw [CK_ins, if_pos rfl]) (by rw [insE_len]; omega) (fun j hj => by rw [CK_ins, if_neg (fun h => hj h.symm)]; omega)
      refine ⟨w7, r7, ?_⟩
      have H7 := HeapIs.frT H5 f7 (fun q hq e => by subst e; exact MapAt.notTy M5 _)
      have := fin w7 (k + 1) (mm + 1) _ ⟨H7, M7, hm, fun y hy => by
        rcases List.mem_cons.1 ((insE_perm _ S).mem_iff.1 hy) with rfl | hy
        · exact q4
        · exact hI y hy⟩ (by omega) (by omega) ((hpF_bel f5).trans' (f7.bel fun q e => by subst e; exact hm))
      rwa [insE_len, show ((S.length + 1 : Nat) : Int) = (S.length : Int) + 1 by omega] at this
  · exact ⟨rfl, g3.top⟩
end
end Go.Proofs
