/- Journals: contracts of the program. -/
import Derived.Test.YtmhjjhpgbafjpaaDkRtop
import Derived.Test.YtmhjjhpgbafjpaaCkStop
set_option linter.unusedVariables false
namespace Go.Proofs
open Go Go.Eng
/-- What lies from B on, but what is K. -/
def offK (K : Nat → Prop) (B : Nat) : Nat → Prop := fun k => B ≤ k ∧ ¬ K k
/-- A disk of the call's own, apart from K. -/
def DkK (K : Nat → Prop) (B : Nat) (w : World) (d : Nat) (D : Dsk) : Prop := DiskAt w (offK K B) d D ∧ (∀ k, K k → k < w.heap.size) ∧ B ≤ w.heap.size
section
variable {K : Nat → Prop} {B : Nat} {w w' : World} {d : Nat} {D : Dsk}
theorem toD_off (hd : offK K B d) (f : Fr (toD d) w w') : Fr (offK K B) w w' := f.mono fun k _ e => by have e : k = d := e; subst e; exact hd
theorem plus_off (hK : ∀ k, K k → k < w.heap.size) (hB : B ≤ w.heap.size) : ∀ k, plus (offK K B) w k → offK K B k := fun k h => by
  rcases h with h | h
  · exact h
  · exact ⟨by omega, fun hk => by have := hK k hk; omega⟩
theorem DkK.op (h : DkK K B w d D) {f : Nat} {args : List Value} {Q : Value → Prop} {D' : Dsk} (hc : DiskAt w (offK K B) d D → Ret Try.prog f args w fun v w' => Q v ∧ DiskAt w' (offK K B) d D' ∧ Fr (toD d) w w') : Ret Try.prog f args w fun v w' => Q v ∧ DkK K B w' d D' ∧ Fr (offK K B) w w' :=
  (hc h.1).imp fun v w' ⟨q, h1, f⟩ => ⟨q, ⟨h1, fun k hk => Nat.lt_of_lt_of_le (h.2.1 k hk) f.size, Nat.le_trans h.2.2 f.size⟩, toD_off h.1.1 f⟩
theorem DkK.append (h : DkK K B w d D) {ok2 : Nat → Prop} {A2 : Option Addr} {c2 : Nat} {xs : List UInt8} (hr : ∀ w', Fr (toD d) w w' → Rd w' ok2 A2 (bvs xs)) :
    Ret Try.prog 49 [.pointer (some ⟨d, 0, none⟩), .slice A2 xs.length c2] w fun v w' => v = .int .i64 (apE D xs) ∧ DkK K B w' d (apD D xs) ∧ Fr (offK K B) w w' :=
  (append_ok' h.1 hr).imp fun v w' ⟨q, h1, f⟩ => ⟨q, ⟨h1.mono fun k _ hk => plus_off h.2.1 h.2.2 k hk, fun k hk => Nat.lt_of_lt_of_le (h.2.1 k hk) f.size, Nat.le_trans h.2.2 f.size⟩, f⟩
theorem DkK.sync (h : DkK K B w d D) : Ret Try.prog 41 [.pointer (some ⟨d, 0, none⟩)] w fun v w' => v = .int .i64 (syE D) ∧ DkK K B w' d (syD D) ∧ Fr (offK K B) w w' := h.op (Q := fun v => v = _) fun h => sync_ok h
theorem DkK.cutoff (h : DkK K B w d D) (n : Int) : Ret Try.prog 40 [.pointer (some ⟨d, 0, none⟩), .int .i64 n] w fun v w' => v = .int .i64 (cuE D n) ∧ DkK K B w' d (cuD D n) ∧ Fr (offK K B) w w' := h.op (Q := fun v => v = _) fun h => cutoff_ok h n
theorem DkK.cut (h : DkK K B w d D) (n : Int) (hn : n ≤ 9223372036854775807) : Ret Try.prog 7 [.pointer (some ⟨d, 0, none⟩), .int .i64 n] w fun v w' => v = .tuple ⟨[]⟩ ∧ DkK K B w' d (ctD D n) ∧ Fr (offK K B) w w' := h.op (Q := fun v => v = _) fun h => cut_ok h n hn
theorem DkK.crash (h : DkK K B w d D) (n : Int) : Ret Try.prog 12 [.pointer (some ⟨d, 0, none⟩), .int .i64 n] w fun v w' => v = .tuple ⟨[]⟩ ∧ DkK K B w' d (crD D n) ∧ Fr (offK K B) w w' := h.op (Q := fun v => v = _) fun h => crash_ok h n
theorem DkK.fr (h : DkK K B w d D) {F : Nat → Prop} (f : Fr F w w') (hF : ∀ k, k < w.heap.size → F k → K k ∨ k < B) : DkK K B w' d D :=
  ⟨h.1.fr f fun k hk h1 h2 => by rcases hF k hk h2 with h3 | h3; exact h1.2 h3; have := h1.1; omega, fun k hk => Nat.lt_of_lt_of_le (h.2.1 k hk) f.size, Nat.le_trans h.2.2 f.size⟩
theorem DkK.fr0 (h : DkK K B w d D) (f : Fr none1 w w') : DkK K B w' d D := h.fr f fun _ _ h => h.elim
/-- What comes new is K, too. -/
theorem DkK.grow (h : DkK K B w d D) {F : Nat → Prop} (f : Fr F w w') (hF : ∀ k, k < w.heap.size → F k → K k ∨ k < B) : DkK (fun k => K k ∨ (w.heap.size ≤ k ∧ k < w'.heap.size)) B w' d D := by
  have h1 := (h.1.mono (ok' := fun k => offK K B k ∧ k < w.heap.size) fun k hk ho => ⟨ho, hk⟩).fr f fun k hk h1 h2 => by
    rcases hF k hk h2 with h3 | h3
    · exact h1.1.2 h3
    · have := h1.1.1; omega
  refine ⟨h1.mono fun k _ hk => ⟨hk.1.1, fun h2 => ?_⟩, fun k hk => ?_, Nat.le_trans h.2.2 f.size⟩
  · rcases h2 with h2 | h2
    · exact hk.1.2 h2
    · have := hk.2; omega
  · rcases hk with hk | hk
    · exact Nat.lt_of_lt_of_le (h.2.1 k hk) f.size
    · exact hk.2
theorem DkK.shrink {K' : Nat → Prop} (h : DkK K B w d D) (hK : ∀ k, K' k → K k) : DkK K' B w d D :=
  ⟨h.1.mono fun k _ hk => ⟨hk.1, fun h2 => hk.2 (hK k h2)⟩, fun k hk => h.2.1 k (hK k hk), h.2.2⟩
theorem offK_bel {K : Nat → Prop} {B : Nat} {w w' : World} (f : Fr (offK K B) w w') : Bel B w w' := f.mono fun _ _ h => h.1
theorem offK_sub {K K' : Nat → Prop} (hK : ∀ k, K' k → K k) (f : Fr (offK K B) w w') : Fr (offK K' B) w w' := f.mono fun k _ h => ⟨h.1, fun h2 => h.2 (hK k h2)⟩
/-- A new disk. -/
theorem DkK.new (hB : B ≤ w.heap.size) (hK : ∀ k, K k → k < w.heap.size) : Ret Try.prog 5 [] w fun v w' => v = .pointer (some ⟨w.heap.size, 0, none⟩) ∧ DkK K B w' w.heap.size ⟨[], 0, false, -1⟩ ∧ Fr none1 w w' :=
  (new_ok w).imp fun v w' ⟨q, h, f⟩ => ⟨q, ⟨h.mono fun k _ hk => ⟨Nat.le_trans hB hk, fun h2 => by have := hK k h2; have : w.heap.size ≤ k := hk; omega⟩, fun k hk => Nat.lt_of_lt_of_le (hK k hk) f.size, Nat.le_trans hB f.size⟩, f⟩
end
def Live (D : Dsk) : Prop := D.dead = false ∧ D.fuse = -1
theorem Live.pw {D : Dsk} (h : Live D) : pwE D = 0 ∧ pwD D = D := by
  obtain ⟨h1, h2⟩ := h
  unfold pwE pwD
  simp [h1, h2]
theorem Live.rd {D : Dsk} (h : Live D) : rdE D = 0 ∧ rdB D = D.bs := by
  unfold rdE rdB
  simp [h.1]
theorem Live.sync {D : Dsk} (h : Live D) : syE D = 0 ∧ syD D = { D with safe := D.bs.length } := by
  obtain ⟨h1, h2⟩ := h.pw
  unfold syE syD
  rw [h1, h2, if_pos rfl]; exact ⟨rfl, rfl⟩
theorem Live.cutoff {D : Dsk} (h : Live D) {n : Nat} (hn : n ≤ D.bs.length) : cuE D (n : Int) = 0 ∧ cuD D (n : Int) = { D with bs := D.bs.take n, safe := n } := by
  obtain ⟨h1, h2⟩ := h.pw
  have e : cuE D (n : Int) = 0 := by unfold cuE; rw [h1, if_neg (by simp), if_pos (by omega)]
  refine ⟨e, ?_⟩
  unfold cuD
  rw [e, if_pos rfl, h2, Int.toNat_natCast]
theorem Live.append {D : Dsk} (h : Live D) {xs : Bs} (hl : D.bs.length + xs.length ≤ 1048576) : apE D xs = 0 ∧ apD D xs = { D with bs := D.bs ++ xs } := by
  obtain ⟨h1, h2⟩ := h.pw
  have e : apE D xs = 0 := by unfold apE; rw [h1, if_neg (by simp), if_neg (by omega)]
  refine ⟨e, ?_⟩
  unfold apD
  rw [e, if_pos rfl, h2]
theorem live_crash (D : Dsk) (n : Int) : Live (crD D n) := ⟨rfl, rfl⟩
/-- What a disk is when its journal was opened. -/
def opD (D : Dsk) : Dsk := ⟨D.bs.take (scanB D.bs).2, (scanB D.bs).2, false, -1⟩
theorem live_op (D : Dsk) : Live (opD D) := ⟨rfl, rfl⟩
theorem opD_bs (D : Dsk) : (opD D).bs = frames (scanB D.bs).1 ∧ (opD D).safe = (frames (scanB D.bs).1).length := by
  obtain ⟨rest, h1, h2, _⟩ := scanB_spec D.bs
  refine ⟨?_, h2⟩
  show D.bs.take (scanB D.bs).2 = _
  rw [h2]
  generalize (scanB D.bs).1 = l at h1
  rw [h1, List.take_append_of_le_length (Nat.le_refl _), List.take_length]
/-- The things that were found: rows that lie between. -/
def Found (w : World) (lo hi : Nat) (A : Option Addr) (c : Nat) (xss : List Bs) : Prop := ∃ vs, Own w 36 1 (fun k => lo ≤ k ∧ k < hi) A xss.length c vs ∧ Bss w (fun k => lo ≤ k ∧ k < hi) vs xss
theorem Found.fr {F : Nat → Prop} {w w' : World} {lo hi c : Nat} {A : Option Addr} {xss : List Bs} (h : Found w lo hi A c xss) (f : Fr F w w') (hF : ∀ k, k < w.heap.size → (lo ≤ k ∧ k < hi) → ¬ F k) : Found w' lo hi A c xss := by
  obtain ⟨vs, h1, h2⟩ := h
  exact ⟨vs, h1.fr f hF, h2.fr f hF⟩
theorem Found.rs {w : World} {lo hi c : Nat} {A : Option Addr} {xss : List Bs} (h : Found w lo hi A c xss) : RS w A xss := by
  obtain ⟨vs, h1, h2⟩ := h
  exact ⟨vs, h1.rd.mono fun _ _ _ => trivial, h2.mono fun _ _ _ => trivial⟩
theorem Rows.found {B : Nat} {w : World} {A : Option Addr} {c : Nat} {xss : List Bs} (h : Rows B (from1 B) w A c xss) : Found w B w.heap.size A c xss := by
  obtain ⟨o1, o2, vs, h1, h2, hd, s1, s2⟩ := h
  exact ⟨vs, h1.mono fun k hk h => ⟨s1 k h, hk⟩, h2.mono fun k hk h => ⟨s2 k h, hk⟩⟩
def jcs (d : Nat) (n : Nat) : List Value := [.pointer (some ⟨d, 0, none⟩), .int .i64 (n : Int)]
/-- A journal of the call's own. -/
def JnK (K : Nat → Prop) (B : Nat) (w : World) (j d : Nat) (D : Dsk) (n : Nat) : Prop := Blk w j 88 (jcs d n) ∧ DkK (fun k => K k ∨ k = j) B w d D ∧ B ≤ j ∧ ¬ K j
section
variable {K : Nat → Prop} {B : Nat} {w w' : World} {j d n : Nat} {D : Dsk}
theorem JnK.fr (h : JnK K B w j d D n) {F : Nat → Prop} (f : Fr F w w') (hF : ∀ k, k < w.heap.size → F k → K k ∨ k < B) : JnK K B w' j d D n := by
  obtain ⟨h1, h2, h3, h4⟩ := h
  refine ⟨h1.fr f fun hj => ?_, h2.fr f fun k hk hf => (hF k hk hf).imp .inl id, h3, h4⟩
  rcases hF j h1.lt hj with h | h
  · exact h4 h
  · omega
theorem JnK.fr0 (h : JnK K B w j d D n) (f : Fr none1 w w') : JnK K B w' j d D n := h.fr f fun _ _ h => h.elim
theorem JnK.grow (h : JnK K B w j d D n) {F : Nat → Prop} (f : Fr F w w') (hF : ∀ k, k < w.heap.size → F k → K k ∨ k < B) : JnK (fun k => K k ∨ (w.heap.size ≤ k ∧ k < w'.heap.size)) B w' j d D n := by
  have h0 := h.fr f hF
  obtain ⟨h1, h2, h3, h4⟩ := h
  refine ⟨h0.1, (h2.grow f fun k hk hf => (hF k hk hf).imp .inl id).shrink fun k hk => ?_, h3, fun hk => ?_⟩
  · rcases hk with (hk | hk) | hk
    · exact .inl (.inl hk)
    · exact .inr hk
    · exact .inl (.inr hk)
  · rcases hk with hk | hk
    · exact h4 hk
    · have := h1.lt; omega
theorem JnK.shrink {K' : Nat → Prop} (h : JnK K B w j d D n) (hK : ∀ k, K' k → K k) : JnK K' B w j d D n := by
  obtain ⟨h1, h2, h3, h4⟩ := h
  exact ⟨h1, h2.shrink fun k hk => hk.imp (hK k) id, h3, fun hk => h4 (hK j hk)⟩
/-- A call upon the disk alone. -/
theorem JnK.disk (h : JnK K B w j d D n) {f : Nat} {args : List Value} {Q : Value → Prop} {D' : Dsk} (hc : DkK (fun k => K k ∨ k = j) B w d D → Ret Try.prog f args w fun v w' => Q v ∧ DkK (fun k => K k ∨ k = j) B w' d D' ∧ Fr (offK (fun k => K k ∨ k = j) B) w w') :
    Ret Try.prog f args w fun v w' => Q v ∧ JnK K B w' j d D' n ∧ Fr (offK K B) w w' := by
  obtain ⟨h1, h2, h3, h4⟩ := h
  exact (hc h2).imp fun v w' ⟨q, k, f⟩ => ⟨q, ⟨h1.fr f fun h => h.2 (.inr rfl), k, h3, h4⟩, offK_sub (fun k => .inl) f⟩
theorem jsync_ok (h : JnK K B w j d D n) : Ret Try.prog 11 [.pointer (some ⟨j, 0, none⟩)] w fun v w' => v = .int .i64 (syE D) ∧ JnK K B w' j d (syD D) n ∧ Fr (offK K B) w w' := by
  apply S11_calls
  refine cF rfl ⟨_, rfl, _, (h.1.cell 0).trans rfl, ?_⟩
  refine (h.disk (Q := fun v => v = _) fun h => h.sync).use ?_
  rintro v w1 ⟨rfl, h1, f1⟩
  exact ⟨_, rfl, rfl, h1, f1⟩
def ntE (D : Dsk) (xs : Bs) : Int := if xs.length ≤ 1000 then apE D (framed xs) else 4
def ntD (D : Dsk) (xs : Bs) : Dsk := if xs.length ≤ 1000 then apD D (framed xs) else D
def ntN (D : Dsk) (xs : Bs) (n : Nat) : Nat := if ntE D xs = 0 then n + 1 else n
theorem note_ok (h : JnK K B w j d D n) {A : Option Addr} {c : Nat} {xs : Bs} {ok : Nat → Prop} (hr : Rd w ok A (bvs xs)) (hm : xs.length ≤ 9000000000000000000) (hn : n ≤ 1000000) :
    Ret Try.prog 10 [.pointer (some ⟨j, 0, none⟩), .slice A xs.length c] w fun v w' => v = .int .i64 (ntE D xs) ∧ JnK K B w' j d (ntD D xs) (ntN D xs n) ∧ Fr (offK K B) w w' := by
  apply S10_calls
  refine cF rfl ?_
  refine (frame_ok (c := c) hr hm).use ?_
  rintro v w1 ⟨A1, c1, rfl, o1, f1⟩
  have h1 := h.fr0 f1
  have f1' : Fr (offK K B) w w1 := f1.mono fun _ _ h => h.elim
  refine ⟨_, _, _, _, rfl, ?_⟩
  by_cases hl : xs.length ≤ 1000
  · have e : frV xs = (framed xs, 0) := frV_ok hl
    have e1 : ntE D xs = apE D (framed xs) := if_pos hl
    have e2 : ntD D xs = apD D (framed xs) := if_pos hl
    unfold ntN
    rw [e1, e2]
    rw [e] at o1 ⊢
    refine cF rfl ⟨_, rfl, _, (h1.1.cell 0).trans rfl, ?_⟩
    have hd : d < w.heap.size := h.2.1.1.lt
    refine (h1.disk (Q := fun v => v = _) fun h => h.append (c2 := c1) (xs := framed xs) (ok2 := bw w.heap.size w1) fun w' f => o1.rd.fr f fun k _ hk e => by have e : k = d := e; have := hk.1; omega).use ?_
    rintro v w2 ⟨rfl, h2, f2⟩
    refine ⟨_, rfl, cN (fun he => ?_) (fun he => ?_)⟩
    · rw [if_neg he]
      exact ⟨rfl, h2, f1'.trans' f2⟩
    · have he' : apE D (framed xs) = 0 := by simpa using he
      rw [if_pos he']
      obtain ⟨b1, b2, b3, b4⟩ := h2
      refine ⟨_, rfl, _, by rw [add_g]; exact (b1.cell 1).trans rfl, _, rfl, by rw [add_g]; exact b1.has 1 (by simp [jcs]), by rw [add_g]; exact b1.free 1, ?_⟩
      rw [add_g, IntWalk.i64_in _ (by omega)]
      have fs : Fr (toD j) w2 (w2.setCell ⟨j, 1, none⟩ (.int .i64 ((n : Int) + 1))) := setD _ _ _ _
      refine ⟨by rw [he'], ⟨b1.set 1 _, b2.fr fs fun k _ e => by have e : k = j := e; exact .inl (.inr e), b3, b4⟩, f1'.trans' (f2.trans' (fs.mono fun k _ e => by have e : k = j := e; subst e; exact ⟨b3, b4⟩))⟩
  · have e : frV xs = ([], 4) := if_neg hl
    have e1 : ntE D xs = 4 := if_neg hl
    have e2 : ntD D xs = D := if_neg hl
    unfold ntN
    rw [e1, e2, e, if_neg (by decide)]
    exact cT rfl ⟨rfl, h1, f1'⟩
/-- The journal of a disk that lives. -/
theorem jopen_ok (h : DkK K B w d D) (hL : Live D) (hsm : D.bs.length ≤ 1000000) : Ret Try.prog 6 [.pointer (some ⟨d, 0, none⟩)] w fun v w' => ∃ (j hi : Nat) (A : Option Addr) (c : Nat), v = .tuple ⟨[.pointer (some ⟨j, 0, none⟩), .slice A (scanB D.bs).1.length c, .int .i64 0]⟩ ∧
    Found w' w.heap.size hi A c (scanB D.bs).1 ∧ JnK (fun k => K k ∨ (w.heap.size ≤ k ∧ k < hi)) B w' j d (opD D) (scanB D.bs).1.length ∧ Fr (offK K B) w w' ∧ w.heap.size ≤ hi ∧ hi ≤ j := by
  apply S6_calls
  have hdok := h.1.dok
  refine (read_ok h.1).use ?_
  rintro v w1 ⟨A1, c1, rfl, o1, f1⟩
  rw [hL.rd.1, hL.rd.2]
  rw [hL.rd.2] at o1
  refine ⟨_, _, _, _, rfl, cF rfl ?_⟩
  refine (scan_ok (c := c1) o1.rd o1.le hsm).use ?_
  rintro v w2 ⟨A2, c2, rfl, r2, f2⟩
  have fo := r2.found
  have hs1 := f1.size
  have hs2 := f2.size
  have h2 := (h.fr0 f1).grow f2 fun _ _ h => h.elim
  have h2' := h.grow (f1.trans' f2) fun _ _ h => h.elim
  have hd := h.1.lt
  have fo2 : Found w2 w.heap.size w2.heap.size A2 c2 (scanB D.bs).1 := by
    obtain ⟨vs, k1, k2⟩ := fo
    exact ⟨vs, k1.mono fun k _ hk => ⟨by omega, hk.2⟩, k2.mono fun k _ hk => ⟨by omega, hk.2⟩⟩
  have hn := scanB_le D.bs
  have hfr : ∀ {w3 : World}, Fr (offK (fun k => K k ∨ (w.heap.size ≤ k ∧ k < w2.heap.size)) B) w2 w3 → Found w3 w.heap.size w2.heap.size A2 c2 (scanB D.bs).1 := fun f => fo2.fr f fun k _ hk ho => ho.2 (.inr hk)
  have f02 : Fr (offK K B) w w2 := (f1.trans' f2).mono fun _ _ h => h.elim
  -- behind the cut
  have rest : ∀ (w3 : World) (D3 : Dsk), DkK (fun k => K k ∨ (w.heap.size ≤ k ∧ k < w2.heap.size)) B w3 d D3 → Fr (offK (fun k => K k ∨ (w.heap.size ≤ k ∧ k < w2.heap.size)) B) w2 w3 → Live D3 → D3.bs = D.bs.take (scanB D.bs).2 →
      S6_k1 (some ⟨d, 0, none⟩) A2 (scanB D.bs).1.length c2 w3 (fun v w' => ∃ (j hi : Nat) (A : Option Addr) (c : Nat), v = .tuple ⟨[.pointer (some ⟨j, 0, none⟩), .slice A (scanB D.bs).1.length c, .int .i64 0]⟩ ∧
        Found w' w.heap.size hi A c (scanB D.bs).1 ∧ JnK (fun k => K k ∨ (w.heap.size ≤ k ∧ k < hi)) B w' j d (opD D) (scanB D.bs).1.length ∧ Fr (offK K B) w w' ∧ w.heap.size ≤ hi ∧ hi ≤ j) := by
    intro w3 D3 h3 f3 hL3 e3
    refine h3.sync.use ?_
    rintro v w4 ⟨rfl, h4, f4⟩
    obtain ⟨s1, s2⟩ := hL3.sync
    rw [s1]
    rw [s2] at h4
    have f24 := f3.trans' f4
    have hs4 := f24.size
    refine ⟨_, rfl, cF rfl ?_⟩
    have fa : Fr none1 w4 (w4.alloc (.cells ⟨jcs d (scanB D.bs).1.length⟩ 88)) := Fr.alloc _ _
    have bj : Blk (w4.alloc (.cells ⟨jcs d (scanB D.bs).1.length⟩ 88)) w4.heap.size 88 (jcs d (scanB D.bs).1.length) := Blk.new _ _ _
    have eD : ({ D3 with safe := D3.bs.length } : Dsk) = opD D := by
      cases D3
      obtain ⟨l1, l2⟩ := hL3
      simp only at l1 l2 e3
      subst l1 l2 e3
      unfold opD
      simp only [List.length_take, Nat.min_eq_left hn]
    rw [eD] at h4
    have h5 := h4.fr0 fa
    -- whatever is new but the disk's
    refine ⟨w4.heap.size, w2.heap.size, A2, c2, rfl, (hfr f24).fr fa fun _ _ _ h => h, ⟨bj, ?_, Nat.le_trans h.2.2 (by omega), fun hk => ?_⟩, ?_, by omega, hs4⟩
    · refine (h4.grow fa fun _ _ h => h.elim).shrink fun k hk => hk.imp id fun e => ?_
      subst e
      exact ⟨Nat.le_refl _, bj.lt⟩
    · rcases hk with hk | hk
      · have := h.2.1 _ hk; omega
      · omega
    · exact f02.trans' ((offK_sub (fun k => .inl) f24).trans' (fa.mono fun _ _ h => h.elim))
  refine ⟨_, _, _, _, rfl, cD (fun hlt => ?_) (fun hlt => ?_)⟩
  · refine (h2'.cutoff ((scanB D.bs).2 : Int)).use ?_
    rintro v w3 ⟨rfl, h3, f3⟩
    obtain ⟨s1, s2⟩ := hL.cutoff hn
    rw [s1]
    rw [s2] at h3
    exact ⟨_, rfl, cF rfl (rest w3 _ h3 f3 ⟨hL.1, hL.2⟩ rfl)⟩
  · refine rest w2 D h2' (Fr.refl _ _) hL ?_
    rw [List.take_of_length_le (by omega)]
end
end Go.Proofs
