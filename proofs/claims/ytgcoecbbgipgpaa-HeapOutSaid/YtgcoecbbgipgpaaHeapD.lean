import Derived.Test.YtgcoecbbgipgpaaHeapC
set_option linter.unusedVariables false
namespace Go.Proofs
open Go Go.Eng
def Srt (S : List En) : Prop := S.Pairwise lt
def hd : List En → Int × Int
  | [] => (0, 0)
  | e :: _ => (e.1, e.2.1)
def it2 (p : Int × Int) : List Value := [.int .i64 p.1, .int .i64 p.2]
def topV (S : List En) : Value := .tuple ⟨[.agg ⟨it2 (hd S)⟩, .bool (!S.isEmpty)]⟩
/-- A heap that holds S: sorted, all pushed ahead of the nx-th. -/
def HeapIs (B : Nat) (w : World) (hp : Nat) (S : List En) (nx : Nat) : Prop :=
  bw B w hp ∧ (∃ A c L, Raw w (bw B w) hp A c (nx : Int) L ∧ HO L ∧ L.Perm S) ∧ Srt S ∧ (∀ e ∈ S, e.2.2 < nx) ∧ S.length ≤ nx
def hpF (B : Nat) (w : World) : Nat → Prop := fun k => bw B w k ∧ hasTy w [52, 56] k
theorem Raw.up0 {B : Nat} {w w' : World} {hp : Nat} {A : Option Addr} {c : Nat} {nx : Int} {L : List En} (h : Raw w (bw B w) hp A c nx L) (f : Fr none1 w w') : Raw w' (bw B w') hp A c nx L := ⟨h.1.fr f (fun h => h), ownB h.2 f⟩
theorem HeapIs.frT {B : Nat} {w w' : World} {hp : Nat} {S : List En} {nx : Nat} {F : Nat → Prop} (h : HeapIs B w hp S nx) (hf : Fr F w w') (hF : ∀ k, k < w.heap.size → F k → ¬ hasTy w [52, 56] k) : HeapIs B w' hp S nx := by
  obtain ⟨hb, ⟨A, c, L, ⟨r1, r2⟩, h2, h3⟩, h4⟩ := h
  refine ⟨bw_mono hf.size hb, ⟨A, c, L, ⟨r1.fr hf (fun hk => hF _ r1.lt hk (r1.hasTy (by decide))), ?_⟩, h2, h3⟩, h4⟩
  exact (r2.fr1 hf fun a ha hk => hF _ (r2.has a ha).2 hk (by obtain ⟨cur, hc⟩ := r2.obj a ha; exact ⟨cur, 56, hc, by decide⟩)).mono fun k hk h => ⟨h.1, hk⟩
theorem HeapIs.fr0 {B : Nat} {w w' : World} {hp : Nat} {S : List En} {nx : Nat} (h : HeapIs B w hp S nx) (hf : Fr none1 w w') : HeapIs B w' hp S nx := h.frT hf fun k _ h => h.elim
theorem new_ok (w : World) {B : Nat} (hB : B ≤ w.heap.size) : Ret Try.prog 11 [] w fun v w' => ∃ hp, v = .pointer (some ⟨hp, 0, none⟩) ∧ HeapIs B w' hp [] 0 ∧ Fr none1 w w' := by
  apply S11_calls
  refine ⟨_, rfl, ⟨⟨hB, by simp⟩, ⟨none, 0, [], ⟨Blk.new w 52 _, Own.nil _ _ _ _⟩, fun j _ h => by simp at h, List.Perm.refl _⟩, List.Pairwise.nil, by simp, Nat.le_refl _⟩, Fr.alloc _ _⟩
theorem root_min {L : List En} (h : HO L) : ∀ j, j < L.length → ¬ lt (g L j) (g L 0) := by
  intro j
  induction j using Nat.strongRecOn with
  | _ j ih =>
    intro hj
    by_cases h0 : j = 0
    · subst h0; unfold lt; omega
    · have h1 := h j (by omega) hj
      have h2 := ih ((j - 1) / 2) (by omega) (by omega)
      exact le_trans' h2 h1
theorem root_head {L : List En} {e : En} {S : List En} (h : HO L) (hp : L.Perm (e :: S)) (hs : Srt (e :: S)) : 0 < L.length ∧ g L 0 = e := by
  have hl := hp.length_eq
  simp at hl
  refine ⟨by omega, ?_⟩
  have hr : g L 0 ∈ L := List.mem_of_getElem? (g_get (by omega))
  have he : e ∈ L := hp.mem_iff.2 (by simp)
  obtain ⟨j, hj, hje⟩ := List.mem_iff_getElem.1 he
  have hge : g L j = e := by
    have := g_get hj
    rw [List.getElem?_eq_getElem hj, hje] at this
    exact (Option.some.inj this).symm
  have h1 := root_min h j hj
  rw [hge] at h1
  rcases List.mem_cons.1 (hp.mem_iff.1 hr) with h2 | h2
  · exact h2
  · exact absurd ((List.pairwise_cons.1 hs).1 _ h2) h1
theorem len_ok {B : Nat} {w : World} {hp : Nat} {S : List En} {nx : Nat} (h : HeapIs B w hp S nx) : Ret Try.prog 19 [.pointer (some ⟨hp, 0, none⟩)] w fun v w' => v = .int .i64 (S.length : Int) ∧ w' = w := by
  obtain ⟨hb, ⟨A, c, L, ⟨r1, r2⟩, h2, h3⟩, h4⟩ := h
  apply S19_calls
  exact cF rfl ⟨_, rfl, A, _, c, by rw [r1.cell]; rfl, by rw [h3.length_eq], rfl⟩
theorem peek_ok {B : Nat} {w : World} {hp : Nat} {S : List En} {nx : Nat} (h : HeapIs B w hp S nx) : Ret Try.prog 17 [.pointer (some ⟨hp, 0, none⟩)] w fun v w' => v = topV S ∧ Fr none1 w w' := by
  apply S17_calls
  have f0 : Fr none1 w (w.alloc (.cells ⟨[.int .i64 0, .int .i64 0]⟩ 32)) := Fr.alloc _ _
  have b0 := Blk.new w 32 [.int .i64 0, .int .i64 0]
  have h0 := h.fr0 f0
  refine (len_ok h0).use ?_
  rintro v w1 ⟨rfl, rfl⟩
  refine ⟨_, rfl, ?_⟩
  obtain ⟨hb, ⟨A, c, L, hraw, h2, h3⟩, h4, h5⟩ := h0
  cases S with
  | nil =>
    obtain ⟨p1, p2, p3, p4, b1, f1⟩ := b0.wr2 (.int .i64 0) (.int .i64 0)
    exact cT rfl ⟨p1, p2, p3, p4, 0, (b1.cell 0).trans rfl, 0, (b1.cell 1).trans rfl, rfl, f0.trans f1 fun k hk e => by subst e; omega⟩
  | cons e S =>
    obtain ⟨hl, he⟩ := root_head h2 h3 h4
    obtain ⟨gb, rfl, k0, k1, _⟩ := hraw.at hl
    rw [he] at k0 k1
    obtain ⟨p1, p2, p3, p4, b1, f1⟩ := b0.wr2' (.int .i64 e.1) (.int .i64 e.2.1)
    refine cF (by simp; omega) ⟨_, rfl, _, _, c, by rw [hraw.1.cell]; rfl, _, rfl, by omega, by omega, e.1, k0, e.2.1, k1, p1, p2, p3, p4, e.1, (b1.cell 0).trans rfl, e.2.1, by rw [add_g]; exact (b1.cell 1).trans rfl, rfl, f0.trans f1 fun k hk e => by subst e; omega⟩
theorem g_take {L : List En} {n j : Nat} (h : j < n) : g (L.take n) j = g L j := by
  rw [g_eq, g_eq, List.getElem?_take, if_pos h]
theorem pop_ok {B : Nat} {w : World} {hp : Nat} {S : List En} {nx : Nat} (h : HeapIs B w hp S nx) (hnx : nx ≤ 100000) : Ret Try.prog 13 [.pointer (some ⟨hp, 0, none⟩)] w fun v w' => v = topV S ∧ HeapIs B w' hp S.tail nx ∧ Fr (hpF B w) w w' := by
  apply S13_calls
  have f0 : Fr none1 w (w.alloc (.cells ⟨[.int .i64 0, .int .i64 0]⟩ 32)) := Fr.alloc _ _
  have b0 := Blk.new w 32 [.int .i64 0, .int .i64 0]
  have h0 := h.fr0 f0
  refine (peek_ok h0).use ?_
  rintro v w1 ⟨rfl, f1⟩
  have b1 := b0.fr f1 (fun h => h)
  have h1 := h0.fr0 f1
  have f01 := f0.trans' f1
  obtain ⟨p1, p2, p3, p4, b2, f2⟩ := cp2 w1 32 (.int .i64 0) (.int .i64 0) (.int .i64 (hd S).1) (.int .i64 (hd S).2)
  refine ⟨_, _, _, rfl, p1, p2, p3, p4, ?_⟩
  generalize World.setCell _ _ _ = w2 at b2 f2 ⊢
  have hx : w1.heap.size < w2.heap.size := b2.lt
  generalize w1.heap.size = x at b2 hx ⊢
  have h2 := h1.fr0 f2
  have b1' := b1.fr f2 (fun h => h)
  have f02 := f01.trans' f2
  cases S with
  | nil =>
    obtain ⟨r1, r2, r3, r4, b3, f3⟩ := b1'.wr2 (.int .i64 0) (.int .i64 0)
    have hb1 := b1'.notTy (ts := [52, 56]) (by decide)
    refine cT rfl ⟨0, (b2.cell 0).trans rfl, 0, (b2.cell 1).trans rfl, r1, r2, r3, r4, 0, (b3.cell 0).trans rfl, 0, (b3.cell 1).trans rfl, rfl, h2.frT f3 (fun k _ e => by subst e; exact hb1), ?_⟩
    exact (f02.trans f3 fun k hk e => by subst e; omega).mono fun _ _ h => h.elim
  | cons e S =>
    refine cF rfl ?_
    obtain ⟨hb, ⟨A, c, L, hraw, hho, hperm⟩, hsrt, hseq, hlen⟩ := h2
    obtain ⟨hl0, he⟩ := root_head hho hperm hsrt
    have hll := hperm.length_eq
    simp at hll hlen
    have hl1 : L.length - 1 < L.length := by omega
    refine ⟨_, rfl, A, _, c, by rw [hraw.1.cell]; rfl, ?_⟩
    rw [IntWalk.i64_in ((L.length : Int) - 1) (by omega), show ((L.length : Int) - 1) = ((L.length - 1 : Nat) : Int) by omega]
    refine (swap_ok hraw hl0 hl1).use ?_
    rintro v w3 ⟨rfl, raw3, f3⟩
    have hle := raw3.2.le
    rw [swp_len] at hle
    have hA : ∀ k, k < w2.heap.size → ownAt A k → bw B w2 k ∧ hasTy w2 [56] k := fun k _ ⟨a, ha, e⟩ => by
      subst e; obtain ⟨cur, hc⟩ := hraw.2.obj a ha; exact ⟨(hraw.2.has a ha).1, cur, 56, hc, by decide⟩
    refine ⟨rfl, _, rfl, A, _, c, by rw [raw3.1.cell]; rfl, by omega, by omega, _, rfl, raw3.1.has 0 (by simp), raw3.1.free 0, ?_⟩
    rw [slAddr_zero, Nat.sub_zero, Nat.sub_zero, Int.toNat_natCast]
    have hs : Fr (fun k => k = hp) w3 (w3.setCell ⟨hp, 0, none⟩ (.slice A (L.length - 1) c)) := Fr.setCell (F := fun k => k = hp) w3 rfl _
    have raw4 : Raw (w3.setCell ⟨hp, 0, none⟩ (.slice A (L.length - 1) c)) (bw B w2) hp A c (nx : Int) ((swp L 0 (L.length - 1)).take (L.length - 1)) := by
      have e1 : ((swp L 0 (L.length - 1)).take (L.length - 1)).length = L.length - 1 := by rw [List.length_take, swp_len]; omega
      refine ⟨by rw [e1]; exact raw3.1.set 0 _, ?_⟩
      rw [e1, ← rws_take ec_len]
      have o := raw3.2.take (n := L.length - 1) (by rw [swp_len]; omega)
      exact o.fr1 hs fun a ha e => o.ne_blk raw3.1 (by decide) a ha e
    generalize hM : (swp L 0 (L.length - 1)).take (L.length - 1) = M at raw4
    have hMl : M.length = L.length - 1 := by rw [← hM, List.length_take, swp_len]; omega
    have gM : ∀ j, j < M.length → 0 < j → g M j = g L j := fun j hj j0 => by
      rw [← hM, g_take (by omega), g_swp hl0 hl1, if_neg (by omega), if_neg (by omega)]
    have d1 : D1 M 0 := fun j j0 jl jp => by
      rw [gM j jl j0, gM _ (by omega) (by omega)]
      exact hho j j0 (by omega)
    have pM : M.Perm S := by
      have e2 : swp L 0 (L.length - 1) = M ++ [g L 0] := by
        have h1 := List.take_append_drop (L.length - 1) (swp L 0 (L.length - 1))
        rw [hM] at h1
        rw [← h1]
        congr 1
        have hlt : L.length - 1 < (swp L 0 (L.length - 1)).length := by rw [swp_len]; omega
        rw [List.drop_eq_getElem_cons hlt]
        have h3 := g_get hlt
        rw [List.getElem?_eq_getElem hlt] at h3
        rw [Option.some.inj h3, g_swp hl0 hl1, if_pos rfl, List.drop_eq_nil_of_le (by rw [swp_len]; omega)]
      have h1 := (swp_perm hl0 hl1).trans hperm
      rw [e2, he] at h1
      exact (List.perm_append_comm.trans h1).cons_inv
    refine (down_ok raw4 (i := 0) (by by_cases h : 0 < M.length; exact .inl h; exact .inr (List.eq_nil_of_length_eq_zero (by omega))) (by omega) (by omega) d1 (fun _ _ _ _ h => absurd h (Nat.lt_irrefl 0))).use ?_
    rintro v w5 ⟨rfl, L5, perm5, ho5, raw5, f5⟩
    have hne52 : ∀ {w' : World} {q : Nat} {vs : List Value}, Blk w' q 32 vs → ∀ {ts : List Nat}, 32 ∉ ts → ¬ hasTy w' ts q := fun h _ ht => h.notTy ht
    -- the local blocks stand
    have stay : ∀ {q : Nat} {vs : List Value}, Blk w2 q 32 vs → Blk w5 q 32 vs := fun hq => by
      have q3 := hq.fr f3 (fun ⟨a, ha, e⟩ => hraw.2.ne_blk hq (by decide) a ha e)
      have q4 := q3.fr hs (fun e => by have := q3.ne raw3.1 (by decide); exact this e)
      exact q4.fr f5 (fun ⟨a, ha, e⟩ => raw4.2.ne_blk q4 (by decide) a ha e)
    have b5 := stay b2
    have b6 := stay b1'
    have ne6 := b6.notTy (ts := [52, 56]) (by decide)
    obtain ⟨r1, r2, r3, r4, b7, f7⟩ := b6.wr2' (.int .i64 e.1) (.int .i64 e.2.1)
    refine ⟨rfl, e.1, (b5.cell 0).trans rfl, e.2.1, by rw [add_g]; exact (b5.cell 1).trans rfl, r1, r2, r3, r4, e.1, (b7.cell 0).trans rfl, e.2.1, by rw [add_g]; exact (b7.cell 1).trans rfl, rfl, ?_, ?_⟩
    · have m1 : w2.heap.size ≤ w5.heap.size := Nat.le_trans f3.size (Nat.le_trans hs.size f5.size)
      have h6 : HeapIs B w5 hp S nx := ⟨bw_mono m1 hb, ⟨A, c, L5, ⟨raw5.1, raw5.2.mono fun k hk h => ⟨h.1, hk⟩⟩, ho5, perm5.trans pM⟩, (List.pairwise_cons.1 hsrt).2, fun x hx => hseq x (List.mem_cons_of_mem _ hx), by omega⟩
      exact h6.frT f7 (fun k _ e => by subst e; exact ne6)
    · have g02 : Fr (hpF B w) w w2 := f02.mono fun _ _ h => h.elim
      have back : ∀ k, k < w.heap.size → bw B w2 k ∧ hasTy w2 [52, 56] k → hpF B w k := fun k hk h => ⟨⟨h.1.1, hk⟩, (f02.hasTy hk (fun h => h)).1 h.2⟩
      have wide : ∀ k, hasTy w2 [56] k → hasTy w2 [52, 56] k := fun k ⟨cur, t, h1, h2⟩ => ⟨cur, t, h1, by simp at h2; simp [h2]⟩
      refine g02.trans (f3.mono (G := fun k => bw B w2 k ∧ hasTy w2 [52, 56] k) fun k hk h => ⟨(hA k hk h).1, wide k (hA k hk h).2⟩) back |>.trans (G := fun k => bw B w2 k ∧ hasTy w2 [52, 56] k) (hs.mono fun k hk e => by subst e; exact ⟨hb, hraw.1.hasTy (by decide)⟩) back |>.trans (G := fun k => ownAt A k) f5 (fun k hk h => ?_) |>.trans f7 (fun k hk e => by subst e; omega)
      have h2 : k < w2.heap.size := Nat.lt_of_lt_of_le hk f02.size
      exact back k hk ⟨(hA k h2 h).1, wide k (hA k h2 h).2⟩
end Go.Proofs
