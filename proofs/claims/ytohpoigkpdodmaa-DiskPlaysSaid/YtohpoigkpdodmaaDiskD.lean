import Derived.Test.YtohpoigkpdodmaaDiskC
set_option linter.unusedVariables false
namespace Go.Proofs
open Go Go.Eng
/-! ### The acts that came in -/
abbrev Act := Int × List UInt8 × Int
def ActQ (w : World) (B : Nat) (a : Addr) (x : Act) : Prop :=
  ∃ (A' : Option Addr) (c' : Nat), w.cell? a = some (.int .u8 x.1) ∧ w.cell? (a.add 1) = some (.slice A' x.2.1.length c') ∧ w.cell? (a.add 2) = some (.int .i64 x.2.2) ∧
    Rd w (fun k => k < B) A' (bvs x.2.1) ∧ 0 ≤ x.1 ∧ x.1 < 256 ∧ IntKind.i64.min ≤ x.2.2 ∧ x.2.2 ≤ IntKind.i64.max
theorem ActQ.fr {w w' : World} {B : Nat} {a : Addr} {x : Act} (h : ActQ w B a x) (hB : B ≤ w.heap.size) (hb : a.block < B) (g : Bel B w w') : ActQ w' B a x := by
  obtain ⟨A', c', h1, h2, h3, h4, h5⟩ := h
  have hc : ∀ j, w'.cell? (a.add j) = w.cell? (a.add j) := fun j => g.cell (by rw [add_block]; omega) (by rw [add_block]; simp only [from1]; omega)
  refine ⟨A', c', ?_, by rw [hc]; exact h2, by rw [hc]; exact h3, h4.fr g fun k _ hk => by simp only [from1]; omega, h5⟩
  have := hc 0
  rw [add_zero'] at this
  rw [this]; exact h1
theorem few_ok {w : World} {B : Nat} {A : Option Addr} {l c : Nat} {al : List Act} (h : RowAt B 3 (ActQ w B) A al) (hl : al.length = l) (hc : l ≤ c) :
    Ret Try.prog 16 [.slice A l c] w fun v w' => w' = w ∧ ∃ (l' c' : Nat) (bs : List Act), v = .slice A l' c' ∧ bs.length = l' ∧ l' ≤ 100 ∧ RowAt B 3 (ActQ w B) A bs ∧ ∀ x ∈ bs, x.2.1.length ≤ 10000 := by
  apply S16_calls
  refine ⟨fun s w' => w' = w ∧ 0 ≤ s.1 ∧ s.1 ≤ 10000 ∧ ∃ n : Nat, s.2.1 = (n : Int) ∧ n ≤ l ∧ n ≤ 100 ∧ ∀ x ∈ al.take n, x.2.1.length ≤ 10000, fun s _ => l - s.2.1.toNat, ⟨rfl, by simp, by simp, 0, rfl, Nat.zero_le _, Nat.zero_le _, by simp⟩, ?_⟩
  rintro J ⟨left, i, ⟨⟩⟩ w' ⟨e, h0, h1, n, hn, hnl, hn1, hx⟩
  subst e
  dsimp only at h0 h1 hn
  subst hn
  have fin : ∀ m : Nat, m = n → w' = w' ∧ ∃ (l' c' : Nat) (bs : List Act), (Value.slice (slAddr A c 0 3) (Int.toNat (n : Int) - 0) (c - 0)) = .slice A l' c' ∧ bs.length = l' ∧ l' ≤ 100 ∧ RowAt B 3 (ActQ w' B) A bs ∧ ∀ x ∈ bs, x.2.1.length ≤ 10000 := by
    intro _ _
    refine ⟨rfl, n, c, al.take n, by rw [slAddr_zero]; simp, by simp; omega, hn1, RowAt.take h n, hx⟩
  refine cD (fun hi => ?_) (fun hi => ?_)
  · have hi' : n < l := by simp at hi; omega
    obtain ⟨a, hA, hab, hq⟩ := h n al[n] (List.getElem?_eq_getElem (by omega))
    obtain ⟨A', c', _, hcell, _⟩ := hq
    refine cD (fun hh => ?_) (fun hh => ?_)
    · refine cT rfl ⟨by simp, by simp; omega, fin n rfl⟩
    · dsimp only at hh
      refine ⟨a, hA, by simp, by simp; omega, A', _, c', by simpa using hcell, ?_⟩
      refine cD (fun hg => ?_) (fun hg => ?_)
      · exact ⟨by simp, by simp; omega, fin n rfl⟩
      · dsimp only at hg
        refine ⟨a, hA, by simp, by simp; omega, A', _, c', by simpa using hcell, ?_⟩
        rw [IntWalk.i64_in (left - _) (by omega), IntWalk.i64_in ((n : Int) + 1) (by omega)]
        refine ⟨⟨rfl, by simp; omega, by simp; omega, n + 1, by simp, by omega, by omega, fun x hx' => ?_⟩, ?_⟩
        · rw [List.take_add_one, List.getElem?_eq_getElem (by omega)] at hx'
          simp only [Option.toList, List.mem_append, List.mem_singleton] at hx'
          rcases hx' with hx' | rfl
          · exact hx x hx'
          · omega
        · simp; omega
  · have hi' : n = l := by simp at hi; omega
    subst hi'
    exact ⟨rfl, n, c, al, rfl, hl, hn1, h, fun x hx' => hx x (by rw [List.take_of_length_le (by omega)]; exact hx')⟩
/-! ### An act done -/
def big : List UInt8 := List.replicate 400000 0
def kd (x : Act) : Int := Int.tmod x.1 7
def doE (D : Dsk) (x : Act) : Int := if kd x = 0 then apE D x.2.1 else if kd x = 1 then syE D else if kd x = 2 then cuE D x.2.2 else if kd x = 3 then 0 else if kd x = 4 then 0 else if kd x = 6 then apE D big else 0
def doD (D : Dsk) (x : Act) : Dsk := if kd x = 0 then apD D x.2.1 else if kd x = 1 then syD D else if kd x = 2 then cuD D x.2.2 else if kd x = 3 then ctD D x.2.2 else if kd x = 4 then crD D x.2.2 else if kd x = 6 then apD D big else D
section
variable {w : World} {ok : Nat → Prop} {d : Nat} {D : Dsk}
theorem toD_ok {w1 w2 : World} (hd : ok d) (f : Fr (toD d) w1 w2) : Fr ok w1 w2 := f.mono fun k _ e => by have e : k = d := e; subst e; exact hd
theorem does_ok (h : DiskAt w ok d D) (x : Act) {A : Option Addr} {c : Nat} {okx : Nat → Prop} (hr : Rd w okx A (bvs x.2.1)) (hdis : ∀ k, k < w.heap.size → okx k → k ≠ d) (hx : x.2.2 ≤ IntKind.i64.max) :
    Ret Try.prog 17 [.pointer (some ⟨d, 0, none⟩), .agg ⟨[.int .u8 x.1, .slice A x.2.1.length c, .int .i64 x.2.2]⟩] w fun v w' => v = .int .i64 (doE D x) ∧ DiskAt w' (plus ok w) d (doD D x) ∧ Fr ok w w' := by
  apply S17_calls
  have b0 := Blk.new w 36 [.int .u8 x.1, .slice A x.2.1.length c, .int .i64 x.2.2]
  have f0 : Fr none1 w (w.alloc (.cells ⟨[.int .u8 x.1, .slice A x.2.1.length c, .int .i64 x.2.2]⟩ 36)) := Fr.alloc _ _
  have h0 := h.fr0 f0
  have r0 := hr.fr f0 (fun _ _ _ h => h)
  have hd := h.1
  have hdl := h.lt
  have hx' : x.2.2 ≤ 9223372036854775807 := hx
  show ∃ t6, World.cell? (w.alloc (.cells ⟨[.int .u8 x.1, .slice A x.2.1.length c, .int .i64 x.2.2]⟩ 36)) _ = _ ∧ _
  generalize w.alloc (.cells ⟨[.int .u8 x.1, .slice A x.2.1.length c, .int .i64 x.2.2]⟩ 36) = w0 at b0 f0 h0 r0 ⊢
  have fw : ∀ {w'}, Fr ok w0 w' → Fr ok w w' := fun f => (f0.mono fun _ _ h => h.elim).trans' f
  have pl : ∀ {w' : World} {D' : Dsk}, DiskAt w' ok d D' → DiskAt w' (plus ok w) d D' := fun h => h.mono fun k _ h => .inl h
  have pl2 : ∀ {w' : World} {D' : Dsk}, DiskAt w' (plus ok w0) d D' → DiskAt w' (plus ok w) d D' := fun h => h.mono fun k _ h => h.imp id (fun h => Nat.le_trans f0.size h)
  refine ⟨x.1, (b0.cell 0).trans rfl, by decide, ?_⟩
  unfold doE doD
  refine cD (fun k0 => ?_) (fun k0 => ?_)
  · rw [if_pos (show kd x = 0 from k0), if_pos (show kd x = 0 from k0)]
    refine ⟨A, _, c, (b0.cell 1).trans rfl, ?_⟩
    refine (append_ok' h0 (c2 := c) (ok2 := okx) (fun w' f => r0.fr f fun k hk h1 e => ?_)).use ?_
    · have e : k = d := e
      subst e
      exact hdis _ hdl h1 rfl
    · rintro v w' ⟨rfl, h1, f1⟩
      exact ⟨_, rfl, rfl, pl2 h1, fw f1⟩
  rw [if_neg (show ¬ kd x = 0 from k0), if_neg (show ¬ kd x = 0 from k0)]
  refine cD (fun k1 => ?_) (fun k1 => ?_)
  · rw [if_pos (show kd x = 1 from k1), if_pos (show kd x = 1 from k1)]
    refine (sync_ok h0).use ?_
    rintro v w' ⟨rfl, h1, f1⟩
    exact ⟨_, rfl, rfl, pl h1, fw (toD_ok hd f1)⟩
  rw [if_neg (show ¬ kd x = 1 from k1), if_neg (show ¬ kd x = 1 from k1)]
  refine cD (fun k2 => ?_) (fun k2 => ?_)
  · rw [if_pos (show kd x = 2 from k2), if_pos (show kd x = 2 from k2)]
    refine ⟨_, (b0.cell 2).trans rfl, ?_⟩
    refine (cutoff_ok h0 _).use ?_
    rintro v w' ⟨rfl, h1, f1⟩
    exact ⟨_, rfl, rfl, pl h1, fw (toD_ok hd f1)⟩
  rw [if_neg (show ¬ kd x = 2 from k2), if_neg (show ¬ kd x = 2 from k2)]
  refine cD (fun k3 => ?_) (fun k3 => ?_)
  · rw [if_pos (show kd x = 3 from k3), if_pos (show kd x = 3 from k3)]
    refine ⟨_, (b0.cell 2).trans rfl, ?_⟩
    refine (cut_ok h0 _ hx').use ?_
    rintro v w' ⟨rfl, h1, f1⟩
    exact ⟨rfl, rfl, pl h1, fw (toD_ok hd f1)⟩
  rw [if_neg (show ¬ kd x = 3 from k3), if_neg (show ¬ kd x = 3 from k3)]
  refine cD (fun k4 => ?_) (fun k4 => ?_)
  · rw [if_pos (show kd x = 4 from k4), if_pos (show kd x = 4 from k4)]
    refine ⟨_, (b0.cell 2).trans rfl, ?_⟩
    refine (crash_ok h0 _).use ?_
    rintro v w' ⟨rfl, h1, f1⟩
    exact ⟨rfl, rfl, pl h1, fw (toD_ok hd f1)⟩
  rw [if_neg (show ¬ kd x = 4 from k4), if_neg (show ¬ kd x = 4 from k4)]
  refine cD (fun k6 => ?_) (fun k6 => ?_)
  · rw [if_pos (show kd x = 6 from k6), if_pos (show kd x = 6 from k6)]
    have hmk := run_mk M28 w0 400000 (by decide) (by decide)
    have f1 : Fr none1 w0 (w0.alloc (.cells ⟨List.replicate 400000 (.int .u8 0)⟩ 5)) := Fr.alloc _ _
    have lit := Own.lit w0 5 1 400000 (List.replicate 400000 (.int .u8 0)) (by rw [List.length_replicate]) (by simp only [maxLen]; omega)
    have eb : bvs big = List.replicate 400000 (.int .u8 0) := by unfold big bvs; rw [List.map_replicate]; rfl
    have h1 := h0.fr0 f1
    have hdl0 : d < w0.heap.size := h0.lt
    refine ⟨_, _, _, _, hmk, ?_⟩
    have hlen : big.length = 400000 := by unfold big; rw [List.length_replicate]
    have := append_ok' h1 (xs := big) (c2 := 400000) (A2 := some ⟨w0.heap.size, 0, none⟩) (ok2 := fun k => k = w0.heap.size) (fun w' f => by rw [eb]; exact lit.rd.fr f fun k _ h1 e => by have e : k = d := e; omega)
    rw [hlen] at this
    refine this.use ?_
    rintro v w' ⟨rfl, h2, f2⟩
    refine ⟨_, rfl, rfl, h2.mono fun k _ h => h.imp id (fun h => Nat.le_trans f0.size (Nat.le_trans f1.size h)), fw ((f1.mono fun _ _ h => h.elim).trans' f2)⟩
  · rw [if_neg (show ¬ kd x = 6 from k6), if_neg (show ¬ kd x = 6 from k6)]
    exact ⟨rfl, pl h0, fw (Fr.refl _ _)⟩
/-- slices.Clone of bytes. -/
theorem clone_ok {A : Option Addr} {l c : Nat} {w : World} {ok : Nat → Prop} {xs : List UInt8} (hl : xs.length = l) (hb : xs.length ≤ 140737488351232) (h : Rd w ok A (bvs xs)) :
    Ret Try.prog 27 [.slice A l c] w fun v w' => ∃ A' c', v = .slice A' l c' ∧ Own w' 5 1 (from1 w.heap.size) A' l c' (bvs xs) ∧ Fr none1 w w' := by
  apply S27_calls
  refine cB (fun hn => ?_) (fun hn => ?_)
  · cases A with
    | some a => cases hn
    | none =>
      rcases h with h | ⟨a, ha, _⟩
      · have : xs = [] := by simpa [bvs] using h
        subst this; simp at hl; subst hl
        exact ⟨none, 0, rfl, Own.nil _ _ _ _, Fr.refl _ _⟩
      · cases ha
  · have h1 := Own.lit w 5 1 0 [] rfl (Nat.zero_le _)
    have h2 : Rd (w.alloc (.cells ⟨[]⟩ 5)) (fun k => k < w.heap.size ∧ ok k) A (bvs xs) := (h.mono (ok' := fun k => k < w.heap.size ∧ ok k) fun k hk ho => ⟨hk, ho⟩).fr (Fr.alloc (F := none1) _ _) fun _ _ _ h => h
    obtain ⟨A', c', w', hr, ho, hf, _⟩ := run_append (ty := 28) (c2 := c) E28 h1 (by rw [bvs_length, hl, Nat.mul_one]) h2 (bvs_one xs) (by omega) (by simp only [maxLen]; omega)
    refine ⟨A', 0 + l, c', w', hr, A', c', by rw [Nat.zero_add], ?_, ?_⟩
    · rw [Nat.zero_add] at ho
      refine ho.mono fun k _ hk => ?_
      rcases hk with hk | hk
      · exact Nat.le_of_eq hk.symm
      · simp at hk; simp only [from1]; omega
    · refine (Fr.alloc (F := none1) w _).trans hf fun k hk h => ?_
      obtain ⟨a, ha, rfl⟩ := h; cases ha; exact absurd hk (Nat.lt_irrefl _)
theorem copy_ok (h : DiskAt w ok d D) : Ret Try.prog 20 [.pointer (some ⟨d, 0, none⟩)] w fun v w' => ∃ e, v = .pointer (some ⟨e, 0, none⟩) ∧ DiskAt w' (from1 w.heap.size) e D ∧ Fr none1 w w' := by
  have hdl := h.lt
  obtain ⟨hb, A, c, h1, h2, h3⟩ := h
  apply S20_calls
  refine cF rfl ⟨_, rfl, A, _, c, (h1.cell 0).trans rfl, _, by rw [add_g]; exact (h1.cell 1).trans rfl, _, by rw [add_g]; exact (h1.cell 2).trans rfl, _, by rw [add_g]; exact (h1.cell 3).trans rfl, ?_⟩
  obtain ⟨p1, p2, p3, p4, p5, p6, p7, p8, b, f⟩ := cp4 w 51 (.slice none 0 0) (.int .i64 0) (.bool false) (.int .i64 0) (.slice A D.bs.length c) (.int .i64 (D.safe : Int)) (.bool D.dead) (.int .i64 D.fuse)
  refine ⟨p1, p2, p3, p4, p5, p6, p7, p8, _, rfl, ?_⟩
  generalize World.setCell _ _ _ = w1 at b f ⊢
  have j1 := h1.fr f (fun h => h)
  have j2 := h2.fr f (fun _ _ _ h => h)
  refine ⟨A, _, c, (j1.cell 0).trans rfl, ?_⟩
  obtain ⟨h4, h5, h6⟩ := h3
  refine (clone_ok (c := c) rfl (by omega) j2.rd).use ?_
  rintro v w2 ⟨A', c', rfl, o2, f2⟩
  have b2 := b.fr f2 (fun h => h)
  refine ⟨_, _, _, rfl, b2.has 0 (by simp), b2.free 0, _, rfl, ⟨Nat.le_refl _, A', c', b2.set 0 _, ?_, h4, h5, h6⟩, ?_⟩
  · have hs : Fr (toD w.heap.size) w2 (w2.setCell ⟨w.heap.size, 0, none⟩ (.slice A' D.bs.length c')) := setD _ _ _ _
    exact (o2.fr1 hs fun a ha e => o2.ne_blk b2 (by decide) a ha e).mono fun k _ h => by have := f.size; simp only [from1] at *; omega
  · exact (f.trans' f2).set1 (Nat.le_refl _) _
theorem shown_ok (w : World) : Ret Try.prog 8 [] w fun v w' => v = .bool true ∧ Fr none1 w w' := by
  apply S8_calls
  refine (new_ok w).use ?_
  rintro v w1 ⟨rfl, h1, f1⟩
  refine ⟨_, rfl, cF rfl ?_⟩
  obtain ⟨w2, r2, d2, f2⟩ := run_bmark U28 U5 w1 [97, 98, 99] 3 3
  refine ⟨_, _, _, w2, r2, ?_⟩
  have far : ∀ (w0 : World) (A : Option Addr) (xs : List UInt8) (B : Nat), w.heap.size < B → Rd w0 (from1 B) A (bvs xs) → ∀ w', Fr (toD w.heap.size) w0 w' → Rd w' (from1 B) A (bvs xs) := fun w0 A xs B hB h w' f => h.fr f fun k _ h1 e => by have e : k = w.heap.size := e; simp only [from1] at h1; omega
  have h1l := h1.lt
  refine (append_ok' (h1.fr0 f2) (xs := [97, 98, 99]) (c2 := 3) (far w2 _ _ _ h1l d2)).use ?_
  rintro v w3 ⟨rfl, h3, f3⟩
  refine ⟨_, rfl, cF rfl ?_⟩
  refine (sync_ok h3).use ?_
  rintro v w4 ⟨rfl, h4, f4⟩
  refine ⟨_, rfl, cF rfl ?_⟩
  obtain ⟨w5, r5, d5, f5⟩ := run_bmark U28 U5 w4 [100, 101] 2 2
  refine ⟨_, _, _, w5, r5, ?_⟩
  have h4l := h4.lt
  refine (append_ok' (h4.fr0 f5) (xs := [100, 101]) (c2 := 2) (far w5 _ _ _ h4l d5)).use ?_
  rintro v w6 ⟨rfl, h6, f6⟩
  refine ⟨_, rfl, cF rfl ?_⟩
  refine (crash_ok h6 1).use ?_
  rintro v w7 ⟨rfl, h7, f7⟩
  refine ⟨rfl, ?_⟩
  refine (read_ok h7).use ?_
  rintro v w8 ⟨A8, c8, rfl, o8, f8⟩
  refine ⟨_, _, _, _, rfl, _, _, run_toString U28 U5 U9 rfl o8.rd, ?_⟩
  refine cT (by decide) ⟨rfl, ?_⟩
  have g1 := f1.size
  have g2 := f2.size
  have g3 := f3.size
  have g4 := f4.size
  have g5 := f5.size
  have o3 : ∀ k, plus (from1 w.heap.size) w2 k → w.heap.size ≤ k := fun k h => by rcases h with h | h; exact h; omega
  have o6 : ∀ k, plus (plus (from1 w.heap.size) w2) w5 k → w.heap.size ≤ k := fun k h => by rcases h with h | h; exact o3 k h; omega
  have t : ∀ {a b : World}, Fr (toD w.heap.size) a b → Bel w.heap.size a b := fun f => f.bel fun k e => by have e : k = w.heap.size := e; omega
  exact (f1.bel0.trans' (f2.bel0.trans' ((f3.bel fun k h => h).trans' ((t f4).trans' (f5.bel0.trans' ((f6.bel o3).trans' ((t f7).trans' f8.bel0))))))).top
end
end Go.Proofs
