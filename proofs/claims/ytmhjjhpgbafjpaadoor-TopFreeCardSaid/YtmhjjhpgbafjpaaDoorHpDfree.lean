/- A heap by its owner: what it holds, sorted. -/
import Derived.Test.YtmhjjhpgbafjpaaDoorHpCfree
set_option linter.unusedVariables false
namespace Go.Proofs
open Go Go.Eng
def Srt (S : List En) : Prop := S.Pairwise lt
def hd : List En → Int × Int
  | [] => (0, 0)
  | e :: _ => (e.1, e.2.1)
def it2 (p : Int × Int) : List Value := [.int .i64 p.1, .int .i64 p.2]
def topV (S : List En) : Value := .tuple ⟨[.agg ⟨it2 (hd S)⟩, .bool (!S.isEmpty)]⟩
/-- A heap that holds S: sorted, all pushed ahead of the nx-th. -/
def HA (w : World) (ok : Nat → Prop) (hp : Nat) (S : List En) (nx : Nat) : Prop :=
  ok hp ∧ (∃ A c L, Raw w ok hp A c (nx : Int) L ∧ HO L ∧ L.Perm S) ∧ Srt S ∧ (∀ e ∈ S, e.2.2 < nx) ∧ S.length ≤ nx
theorem HA.fr {w w' : World} {ok : Nat → Prop} {hp : Nat} {S : List En} {nx : Nat} {F : Nat → Prop} (h : HA w ok hp S nx) (hf : Fr F w w') (hd : ∀ k, k < w.heap.size → ok k → ¬ F k) : HA w' ok hp S nx := by
  obtain ⟨hb, ⟨A, c, L, ⟨r1, r2⟩, h2, h3⟩, h4⟩ := h
  exact ⟨hb, ⟨A, c, L, ⟨r1.fr hf (hd _ r1.lt hb), r2.fr hf hd⟩, h2, h3⟩, h4⟩
theorem HA.mono {w : World} {ok ok' : Nat → Prop} {hp : Nat} {S : List En} {nx : Nat} (h : HA w ok hp S nx) (hk : ∀ k, k < w.heap.size → ok k → ok' k) : HA w ok' hp S nx := by
  obtain ⟨hb, ⟨A, c, L, ⟨r1, r2⟩, h2, h3⟩, h4⟩ := h
  exact ⟨hk _ r1.lt hb, ⟨A, c, L, ⟨r1, r2.mono hk⟩, h2, h3⟩, h4⟩
theorem HA.fr0 {w w' : World} {ok : Nat → Prop} {hp : Nat} {S : List En} {nx : Nat} (h : HA w ok hp S nx) (hf : Fr none1 w w') : HA w' ok hp S nx := h.fr hf fun _ _ _ h => h
theorem hnew_ok (w : World) : Ret Tryd.prog 34 [] w fun v w' => v = .pointer (some ⟨w.heap.size, 0, none⟩) ∧ HA w' (from1 w.heap.size) w.heap.size [] 0 ∧ Fr none1 w w' := by
  apply S34_calls
  refine ⟨rfl, ⟨Nat.le_refl _, ⟨none, 0, [], ⟨Blk.new w 109 _, Own.nil _ _ _ _⟩, fun j _ h => by simp at h, List.Perm.refl _⟩, List.Pairwise.nil, by simp, Nat.le_refl _⟩, Fr.alloc _ _⟩
theorem root_min {L : List En} (h : HO L) : ∀ j, j < L.length → ¬ lt (g L j) (g L 0) := by
  intro j
  induction j using Nat.strongRecOn with
  | _ j ih =>
    intro hj
    by_cases h0 : j = 0
    · subst h0; unfold lt; omega
    · have h1 := h j (by omega) hj
      have h2 := ih ((j - 1) / 2) (by omega) (by omega)
      exact le_trans' h2 h1
theorem root_head {L : List En} {e : En} {S : List En} (h : HO L) (hp : L.Perm (e :: S)) (hs : Srt (e :: S)) : 0 < L.length ∧ g L 0 = e := by
  have hl := hp.length_eq
  simp at hl
  refine ⟨by omega, ?_⟩
  have hr : g L 0 ∈ L := List.mem_of_getElem? (g_get (by omega))
  have he : e ∈ L := hp.mem_iff.2 (by simp)
  obtain ⟨j, hj, hje⟩ := List.mem_iff_getElem.1 he
  have hge : g L j = e := by
    have := g_get hj
    rw [List.getElem?_eq_getElem hj, hje] at this
    exact (Option.some.inj this).symm
  have h1 := root_min h j hj
  rw [hge] at h1
  rcases List.mem_cons.1 (hp.mem_iff.1 hr) with h2 | h2
  · exact h2
  · exact absurd ((List.pairwise_cons.1 hs).1 _ h2) h1
theorem hlen_ok {ok : Nat → Prop} {w : World} {hp : Nat} {S : List En} {nx : Nat} (h : HA w ok hp S nx) : Ret Tryd.prog 64 [.pointer (some ⟨hp, 0, none⟩)] w fun v w' => v = .int .i64 (S.length : Int) ∧ w' = w := by
  obtain ⟨hb, ⟨A, c, L, ⟨r1, r2⟩, h2, h3⟩, h4⟩ := h
  apply S64_calls
  exact cF rfl ⟨_, rfl, A, _, c, by rw [r1.cell]; rfl, by rw [h3.length_eq], rfl⟩
theorem hpeek_ok {ok : Nat → Prop} {w : World} {hp : Nat} {S : List En} {nx : Nat} (h : HA w ok hp S nx) : Ret Tryd.prog 51 [.pointer (some ⟨hp, 0, none⟩)] w fun v w' => v = topV S ∧ Fr none1 w w' := by
  apply S51_calls
  have f0 : Fr none1 w (w.alloc (.cells ⟨[.int .i64 0, .int .i64 0]⟩ 86)) := Fr.alloc _ _
  have b0 := Blk.new w 86 [.int .i64 0, .int .i64 0]
  have h0 := h.fr0 f0
  refine (hlen_ok h0).use ?_
  rintro v w1 ⟨rfl, rfl⟩
  refine ⟨_, rfl, ?_⟩
  obtain ⟨hb, ⟨A, c, L, hraw, h2, h3⟩, h4, h5⟩ := h0
  cases S with
  | nil =>
    obtain ⟨p1, p2, p3, p4, b1, f1⟩ := b0.wr2 (.int .i64 0) (.int .i64 0)
    exact cT rfl ⟨p1, p2, p3, p4, 0, (b1.cell 0).trans rfl, 0, (b1.cell 1).trans rfl, rfl, f0.trans f1 fun k hk e => by subst e; omega⟩
  | cons e S =>
    obtain ⟨hl, he⟩ := root_head h2 h3 h4
    obtain ⟨gb, rfl, k0, k1, _⟩ := hraw.at hl
    rw [he] at k0 k1
    obtain ⟨p1, p2, p3, p4, b1, f1⟩ := b0.wr2' (.int .i64 e.1) (.int .i64 e.2.1)
    refine cF (by simp; omega) ⟨_, rfl, _, _, c, by rw [hraw.1.cell]; rfl, _, rfl, by omega, by omega, e.1, k0, e.2.1, k1, p1, p2, p3, p4, e.1, (b1.cell 0).trans rfl, e.2.1, by rw [add_g]; exact (b1.cell 1).trans rfl, rfl, f0.trans f1 fun k hk e => by subst e; omega⟩
theorem g_take {L : List En} {n j : Nat} (h : j < n) : g (L.take n) j = g L j := by
  rw [g_eq, g_eq, List.getElem?_take, if_pos h]
theorem hpop_ok {ok : Nat → Prop} {w : World} {hp : Nat} {S : List En} {nx : Nat} (h : HA w ok hp S nx) (hnx : nx ≤ 100000) : Ret Tryd.prog 36 [.pointer (some ⟨hp, 0, none⟩)] w fun v w' => v = topV S ∧ HA w' ok hp S.tail nx ∧ Fr ok w w' := by
  apply S36_calls
  have f0 : Fr none1 w (w.alloc (.cells ⟨[.int .i64 0, .int .i64 0]⟩ 86)) := Fr.alloc _ _
  have b0 := Blk.new w 86 [.int .i64 0, .int .i64 0]
  have h0 := h.fr0 f0
  refine (hpeek_ok h0).use ?_
  rintro v w1 ⟨rfl, f1⟩
  have b1 := b0.fr f1 (fun h => h)
  have h1 := h0.fr0 f1
  have f01 := f0.trans' f1
  obtain ⟨p1, p2, p3, p4, b2, f2⟩ := cp2 w1 86 (.int .i64 0) (.int .i64 0) (.int .i64 (hd S).1) (.int .i64 (hd S).2)
  refine ⟨_, _, _, rfl, p1, p2, p3, p4, ?_⟩
  generalize World.setCell _ _ _ = w2 at b2 f2 ⊢
  have hx : w1.heap.size < w2.heap.size := b2.lt
  generalize w1.heap.size = x at b2 hx ⊢
  have h2 := h1.fr0 f2
  have b1' := b1.fr f2 (fun h => h)
  have f02 := f01.trans' f2
  cases S with
  | nil =>
    obtain ⟨r1, r2, r3, r4, b3, f3⟩ := b1'.wr2 (.int .i64 0) (.int .i64 0)
    have hb1 : w.heap.size ≠ hp := by
      obtain ⟨_, ⟨A, c, L, hraw, _⟩, _⟩ := h2
      exact Blk.ne b1' hraw.1 (by decide)
    refine cT rfl ⟨0, (b2.cell 0).trans rfl, 0, (b2.cell 1).trans rfl, r1, r2, r3, r4, 0, (b3.cell 0).trans rfl, 0, (b3.cell 1).trans rfl, rfl, ?_, (f02.trans f3 fun k hk e => by subst e; omega).mono fun _ _ h => h.elim⟩
    obtain ⟨hb, ⟨A, c, L, ⟨q1, q2⟩, q3⟩, q4⟩ := h2
    exact ⟨hb, ⟨A, c, L, ⟨q1.fr f3 (Ne.symm hb1), q2.fr1 f3 fun a ha => q2.ne_blk b1' (by decide) a ha⟩, q3⟩, q4⟩
  | cons e S =>
    refine cF rfl ?_
    obtain ⟨hb, ⟨A, c, L, hraw, hho, hperm⟩, hsrt, hseq, hlen⟩ := h2
    obtain ⟨hl0, he⟩ := root_head hho hperm hsrt
    have hll := hperm.length_eq
    simp at hll hlen
    have hl1 : L.length - 1 < L.length := by omega
    refine ⟨_, rfl, A, _, c, by rw [hraw.1.cell]; rfl, ?_⟩
    rw [IntWalk.i64_in ((L.length : Int) - 1) (by omega), show ((L.length : Int) - 1) = ((L.length - 1 : Nat) : Int) by omega]
    refine (swap_ok hraw hl0 hl1).use ?_
    rintro v w3 ⟨rfl, raw3, f3⟩
    have hle := raw3.2.le
    rw [swp_len] at hle
    have hA : ∀ k, ownAt A k → ok k := fun k ⟨a, ha, e⟩ => by
      subst e; exact (hraw.2.has a ha).1
    refine ⟨rfl, _, rfl, A, _, c, by rw [raw3.1.cell]; rfl, by omega, by omega, _, rfl, raw3.1.has 0 (by simp), raw3.1.free 0, ?_⟩
    rw [slAddr_zero, Nat.sub_zero, Nat.sub_zero, Int.toNat_natCast]
    have hs : Fr (fun k => k = hp) w3 (w3.setCell ⟨hp, 0, none⟩ (.slice A (L.length - 1) c)) := Fr.setCell (F := fun k => k = hp) w3 rfl _
    have raw4 : Raw (w3.setCell ⟨hp, 0, none⟩ (.slice A (L.length - 1) c)) ok hp A c (nx : Int) ((swp L 0 (L.length - 1)).take (L.length - 1)) := by
      have e1 : ((swp L 0 (L.length - 1)).take (L.length - 1)).length = L.length - 1 := by rw [List.length_take, swp_len]; omega
      refine ⟨by rw [e1]; exact raw3.1.set 0 _, ?_⟩
      rw [e1, ← rws_take ec_len]
      have o := raw3.2.take (n := L.length - 1) (by rw [swp_len]; omega)
      exact o.fr1 hs fun a ha e => o.ne_blk raw3.1 (by decide) a ha e
    generalize hM : (swp L 0 (L.length - 1)).take (L.length - 1) = M at raw4
    have hMl : M.length = L.length - 1 := by rw [← hM, List.length_take, swp_len]; omega
    have gM : ∀ j, j < M.length → 0 < j → g M j = g L j := fun j hj j0 => by
      rw [← hM, g_take (by omega), g_swp hl0 hl1, if_neg (by omega), if_neg (by omega)]
    have d1 : D1 M 0 := fun j j0 jl jp => by
      rw [gM j jl j0, gM _ (by omega) (by omega)]
      exact hho j j0 (by omega)
    have pM : M.Perm S := by
      have e2 : swp L 0 (L.length - 1) = M ++ [g L 0] := by
        have h1 := List.take_append_drop (L.length - 1) (swp L 0 (L.length - 1))
        rw [hM] at h1
        rw [← h1]
        congr 1
        have hlt : L.length - 1 < (swp L 0 (L.length - 1)).length := by rw [swp_len]; omega
        rw [List.drop_eq_getElem_cons hlt]
        have h3 := g_get hlt
        rw [List.getElem?_eq_getElem hlt] at h3
        rw [Option.some.inj h3, g_swp hl0 hl1, if_pos rfl, List.drop_eq_nil_of_le (by rw [swp_len]; omega)]
      have h1 := (swp_perm hl0 hl1).trans hperm
      rw [e2, he] at h1
      exact (List.perm_append_comm.trans h1).cons_inv
    refine (down_ok raw4 (i := 0) (by by_cases h : 0 < M.length; exact .inl h; exact .inr (List.eq_nil_of_length_eq_zero (by omega))) (by omega) (by omega) d1 (fun _ _ _ _ h => absurd h (Nat.lt_irrefl 0))).use ?_
    rintro v w5 ⟨rfl, L5, perm5, ho5, raw5, f5⟩
    -- the local blocks stand
    have stay : ∀ {q : Nat} {vs : List Value}, Blk w2 q 86 vs → Blk w5 q 86 vs := fun hq => by
      have q3 := hq.fr f3 (fun ⟨a, ha, e⟩ => hraw.2.ne_blk hq (by decide) a ha e)
      have q4 := q3.fr hs (fun e => by have := q3.ne raw3.1 (by decide); exact this e)
      exact q4.fr f5 (fun ⟨a, ha, e⟩ => raw4.2.ne_blk q4 (by decide) a ha e)
    have b5 := stay b2
    have b6 := stay b1'
    obtain ⟨r1, r2, r3, r4, b7, f7⟩ := b6.wr2' (.int .i64 e.1) (.int .i64 e.2.1)
    refine ⟨rfl, e.1, (b5.cell 0).trans rfl, e.2.1, by rw [add_g]; exact (b5.cell 1).trans rfl, r1, r2, r3, r4, e.1, (b7.cell 0).trans rfl, e.2.1, by rw [add_g]; exact (b7.cell 1).trans rfl, rfl, ?_, ?_⟩
    · have q1 := raw5.1.fr f7 (Blk.ne raw5.1 b6 (by decide))
      have q2 := raw5.2.fr1 f7 fun a ha => raw5.2.ne_blk b6 (by decide) a ha
      exact ⟨hb, ⟨A, c, L5, ⟨q1, q2⟩, ho5, perm5.trans pM⟩, (List.pairwise_cons.1 hsrt).2, fun x hx => hseq x (List.mem_cons_of_mem _ hx), by show S.length ≤ nx; omega⟩
    · have g05 : Fr ok w w5 := (f02.mono fun _ _ h => h.elim).trans' ((f3.mono fun k _ h => hA k h).trans' ((hs.mono fun k _ e => by have e : k = hp := e; subst e; exact hb).trans' (f5.mono fun k _ h => hA k h)))
      exact g05.trans f7 fun k hk e => by have e : k = w.heap.size := e; omega
def insE (x : En) : List En → List En
  | [] => [x]
  | e :: S => if e.1 ≤ x.1 then e :: insE x S else x :: e :: S
theorem insE_perm (x : En) : ∀ S, (insE x S).Perm (x :: S)
  | [] => List.Perm.refl _
  | e :: S => by
    unfold insE
    split
    · exact ((insE_perm x S).cons e).trans (List.Perm.swap x e S)
    · exact List.Perm.refl _
theorem insE_srt (x : En) : ∀ S, Srt S → (∀ e ∈ S, e.2.2 < x.2.2) → Srt (insE x S)
  | [], _, _ => by simp [insE, Srt]
  | e :: S, h, hs => by
    obtain ⟨h1, h2⟩ := List.pairwise_cons.1 h
    unfold insE
    split
    · rename_i hk
      refine List.pairwise_cons.2 ⟨fun y hy => ?_, insE_srt x S h2 fun y hy => hs y (List.mem_cons_of_mem _ hy)⟩
      rcases List.mem_cons.1 ((insE_perm x S).mem_iff.1 hy) with rfl | hy
      · have := hs e (by simp); unfold lt; omega
      · exact h1 y hy
    · rename_i hk
      refine List.pairwise_cons.2 ⟨fun y hy => ?_, h⟩
      rcases List.mem_cons.1 hy with rfl | hy
      · unfold lt; omega
      · have := h1 y hy; unfold lt at *; omega
theorem insE_len (x : En) (S : List En) : (insE x S).length = S.length + 1 := by rw [(insE_perm x S).length_eq]; rfl
theorem g_app {L : List En} {e : En} {j : Nat} (h : j < L.length) : g (L ++ [e]) j = g L j := by
  rw [g_eq, g_eq, List.getElem?_append_left h]
theorem hpush_ok {ok : Nat → Prop} {w : World} {hp : Nat} {S : List En} {nx : Nat} (h : HA w ok hp S nx) (hnx : nx ≤ 50000) (x : Int × Int) : Ret Tryd.prog 35 [.pointer (some ⟨hp, 0, none⟩), .agg ⟨it2 x⟩] w fun v w' => v = .tuple ⟨[]⟩ ∧ HA w' (fun k => ok k ∨ w.heap.size ≤ k) hp (insE (x.1, x.2, (nx : Int)) S) (nx + 1) ∧ Fr ok w w' := by
  apply S35_calls
  have f0 : Fr none1 w (w.alloc (.cells ⟨it2 x⟩ 86)) := Fr.alloc _ _
  have b0 := Blk.new w 86 (it2 x)
  refine cF rfl ⟨_, rfl, _, rfl, ?_⟩
  have d : Fr none1 (w.alloc (.cells ⟨it2 x⟩ 86)) (w.alloc (.cells ⟨it2 x⟩ 86)).drew := Fr.drew _
  have b1 := b0.fr d (fun h => h)
  have f1 := f0.trans' d
  have h1 := h.fr0 f1
  show ∃ t11_0, World.cell? (w.alloc (.cells ⟨it2 x⟩ 86)).drew _ = _ ∧ _
  have b1c0 := b1.cell 0
  have b1c1 := b1.cell 1
  refine ⟨x.1, b1c0.trans rfl, x.2, by rw [add_g]; exact b1c1.trans rfl, ?_⟩
  show ∃ t15, World.cell? (w.alloc (.cells ⟨it2 x⟩ 86)).drew _ = _ ∧ _
  obtain ⟨hb, ⟨A, c, L, hraw, hho, hperm⟩, hsrt, hseq, hlen⟩ := h1
  have hll := hperm.length_eq
  refine ⟨(nx : Int), by rw [add_g]; exact (hraw.1.cell 1).trans rfl, A, _, c, (hraw.1.cell 0).trans rfl, ?_⟩
  show ∃ (t18_a : Option Addr) (t18_l t18_c : Nat) (w_ : World), (Builtin.append_ #[106, 106] 106 ⟨[(.slice A L.length c), (.slice (some ⟨(w.alloc (.cells ⟨it2 x⟩ 86)).drew.heap.size, 0, none⟩) 1 1)]⟩).run Tryd.prog ((w.alloc (.cells ⟨it2 x⟩ 86)).drew.alloc (.cells ⟨ec (x.1, x.2, (nx : Int))⟩ 111)) = _ ∧ _
  generalize (w.alloc (.cells ⟨it2 x⟩ 86)).drew = w1 at hraw hb f1 ⊢
  have a2 : Fr none1 w1 (w1.alloc (.cells ⟨ec (x.1, x.2, (nx : Int))⟩ 111)) := Fr.alloc _ _
  have raw2 := hraw.fr0 a2
  have lit := Own.lit w1 111 3 1 (ec (x.1, x.2, (nx : Int))) rfl (by simp [maxLen])
  obtain ⟨A3, c3, w3, r3, o3, f3, _⟩ := run_append (ty := 106) (m := 1) (c2 := 1) E49 raw2.2 rfl lit.rd (ec_one _) (by omega) (by simp only [maxLen]; omega)
  have k3 := raw2.1.fr f3 (fun ⟨a, ha, e⟩ => raw2.2.ne_blk raw2.1 (by decide) a ha e)
  refine ⟨A3, _, c3, w3, r3, _, rfl, k3.has 0 (by simp), k3.free 0, ?_⟩
  have hs : Fr (fun k => k = hp) w3 (w3.setCell ⟨hp, 0, none⟩ (.slice A3 (L.length + 1) c3)) := Fr.setCell (F := fun k => k = hp) w3 rfl _
  have k4 := k3.set 0 (.slice A3 (L.length + 1) c3)
  have o4 := o3.fr1 hs (fun a ha e => o3.ne_blk k3 (by decide) a ha e)
  refine ⟨_, rfl, (nx : Int), by rw [add_g]; exact (k4.cell 1).trans rfl, _, rfl, ⟨_, by rw [add_g]; exact (k4.cell 1).trans rfl⟩, by rw [add_g]; exact k4.free 1, ?_⟩
  have ew : IntKind.u64.wrap ((nx : Int) + 1) = ((nx + 1 : Nat) : Int) := by
    unfold IntKind.wrap; simp [IntKind.bits, IntKind.signed]; omega
  rw [ew]
  have hs2 : Fr (fun k => k = hp) (w3.setCell ⟨hp, 0, none⟩ (.slice A3 (L.length + 1) c3)) ((w3.setCell ⟨hp, 0, none⟩ (.slice A3 (L.length + 1) c3)).setCell ((⟨hp, 0, none⟩ : Addr).add 1) (.int .u64 ((nx + 1 : Nat) : Int))) := Fr.setCell (F := fun k => k = hp) _ (by rw [add_g]) _
  have k5 : Blk ((w3.setCell ⟨hp, 0, none⟩ (.slice A3 (L.length + 1) c3)).setCell ((⟨hp, 0, none⟩ : Addr).add 1) (.int .u64 ((nx + 1 : Nat) : Int))) hp 109 [.slice A3 (L.length + 1) c3, .int .u64 ((nx + 1 : Nat) : Int)] := k4.set 1 _
  have o5 := o4.fr1 hs2 (fun a ha e => o4.ne_blk k4 (by decide) a ha e)
  have m5 : w3.heap.size ≤ ((w3.setCell ⟨hp, 0, none⟩ (.slice A3 (L.length + 1) c3)).setCell ((⟨hp, 0, none⟩ : Addr).add 1) (.int .u64 ((nx + 1 : Nat) : Int))).heap.size := Nat.le_trans hs.size hs2.size
  generalize (w3.setCell ⟨hp, 0, none⟩ (.slice A3 (L.length + 1) c3)).setCell ((⟨hp, 0, none⟩ : Addr).add 1) (.int .u64 ((nx + 1 : Nat) : Int)) = w5 at k5 o5 hs2 m5 ⊢
  refine ⟨_, rfl, A3, _, c3, (k5.cell 0).trans rfl, ?_⟩
  have hM : (L ++ [((x.1, x.2, (nx : Int)) : En)]).length = L.length + 1 := by simp
  have raw5 : Raw w5 (fun k => ok k ∨ w.heap.size ≤ k) hp A3 c3 ((nx + 1 : Nat) : Int) (L ++ [((x.1, x.2, (nx : Int)) : En)]) := by
    refine ⟨by rw [hM]; exact k5, ?_⟩
    rw [hM, rws_append, rws_one]
    exact o5.mono fun k hk h => h.imp id fun h => Nat.le_trans f1.size (Nat.le_trans a2.size h)
  rw [IntWalk.i64_in (((L.length + 1 : Nat) : Int) - 1) (by omega), show (((L.length + 1 : Nat) : Int) - 1) = (L.length : Int) by omega]
  refine (up_ok raw5 (i := L.length) (by rw [hM]; omega) (by rw [hM]; omega) (fun j j0 jl jne => ?_) (fun j j0 jl jp i0 => by rw [hM] at jl; omega)).use ?_
  · rw [hM] at jl
    rw [g_app (by omega), g_app (by omega)]
    exact hho j j0 (by omega)
  rintro v w6 ⟨rfl, L6, perm6, ho6, raw6, f6⟩
  have p6 : L6.Perm (insE (x.1, x.2, (nx : Int)) S) := by
    refine perm6.trans (List.perm_append_comm.trans ?_)
    exact (hperm.cons _).trans (insE_perm _ S).symm
  refine ⟨rfl, rfl, ⟨.inl hb, ⟨A3, c3, L6, raw6, ho6, p6⟩, insE_srt _ S hsrt hseq, fun e he => ?_, by rw [insE_len]; omega⟩, ?_⟩
  · rcases List.mem_cons.1 ((insE_perm _ S).mem_iff.1 he) with rfl | he
    · show (nx : Int) < ((nx + 1 : Nat) : Int); omega
    · have := hseq e he; omega
  · -- what was written
    have g5 : Fr ok w w5 := (f1.mono fun _ _ h => h.elim).trans' ((a2.mono fun _ _ h => h.elim).trans' ((f3.mono fun k _ ⟨a, ha, e⟩ => by subst e; exact (hraw.2.has a ha).1).trans' ((hs.mono fun k _ e => by have e : k = hp := e; subst e; exact hb).trans' (hs2.mono fun k _ e => by have e : k = hp := e; subst e; exact hb))))
    refine g5.trans f6 fun k hk ⟨a, ha, e⟩ => ?_
    subst e
    exact (raw5.2.has a ha).1.resolve_right (by omega)
end Go.Proofs
