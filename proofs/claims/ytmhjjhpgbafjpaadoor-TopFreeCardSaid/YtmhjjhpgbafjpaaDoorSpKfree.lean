/- Ways through time: a search looks ahead. -/
import Derived.Test.YtmhjjhpgbafjpaaDoorSpJfree
set_option linter.unusedVariables false
set_option maxRecDepth 100000
namespace Go.Proofs
open Go Go.Eng
section
variable {B : Nat} {w0 w w' : World} {own : Nat → Nat} {ok : Nat → Prop} {f : Fl} {s t m hb : Nat} {from_ start last : Int} {A A' : Option Addr} {c c' n n' : Nat} {cof cof' : Nat → Int} {nt : Nat} {cft : Nat → Int} {tf : Int → List Wn}
/-- One step of the search. -/
theorem run_k1 {st : RSt} (I : RI B w0 w own f s t m hb from_ start (start + 40) st.S.tail st.nx st.all st.g A c n cof nt cft tf) (V : RInv f from_ start st) (hne : st.S ≠ []) (hC : f.C.size ≤ 256) (hn : n ≤ 100000) (hst : 0 ≤ start ∧ start ≤ 1000) (hT : ∀ c, tf c = []) {xb : Nat} (hx : own xb = 0 ∧ Blk w xb 86 (it2 (hd st.S))) {R : Value → World → Prop} {B1 : (Option Addr × Nat × Nat) × (Addr) × (Bool) × Unit → World → Prop}
    (hB : ∀ w' own' xb' A' c' n' cof' st', st' = stepR f from_ (start + 40) st → n' + phi start st'.g f.C.size ≤ n + phi start st.g f.C.size → RI B w0 w' own' f s t m hb from_ start (start + 40) st'.S.tail st'.nx st'.all st'.g A' c' n' cof' nt cft tf → (own' xb' = 0 ∧ Blk w' xb' 86 (it2 (hd st'.S))) → B1 ((A', st'.all.length, c'), ⟨xb', 0, none⟩, !st'.S.isEmpty, ()) w') :
    S17_k1 (some ⟨s, 0, none⟩) (some ⟨hb, 0, none⟩) A st.all.length c ⟨xb, 0, none⟩ w R B1 := by
  cases hS : st.S with
  | nil => exact absurd hS hne
  | cons e S' =>
    rw [hS] at I hx
    have hit := V.items e (by rw [hS]; simp)
    have hget : st.all[e.2.1.toNat]? = some st.all[e.2.1.toNat] := List.getElem?_eq_getElem (by omega)
    have hmem : st.all[e.2.1.toNat] ∈ st.all := List.getElem_mem _
    have hstep : ∀ now, st.all[e.2.1.toNat]? = some now → stepR f from_ (start + 40) st = if (st.g now.c).any (kn1 now) then { st with S := S' } else (beyF f from_ (start + 40) now).foldl (pushY (updF st.g now.c (st.g now.c ++ [now]))) { st with S := S', g := updF st.g now.c (st.g now.c ++ [now]) } := fun now h => by
      unfold stepR
      rw [hS]
      dsimp only
      rw [h]
    generalize st.all[e.2.1.toNat] = now at hget hmem
    have hstep := hstep now hget
    have hnow := V.all now hmem
    have hphi0 : phi start st.g f.C.size ≤ 42 * f.C.size := by have := V.nx; omega
    have hnx : st.nx ≤ 43009 := by have := V.nx; omega
    obtain ⟨a, ha, c0, c1, c2⟩ := row3 I.al.rd hget
    obtain ⟨⟨u1, z1, u2, z2, u3, z3⟩, b1, f1⟩ := nw3 w 58 (.int .i64 0) (.int .i64 0) (.int .i64 0) (.int .i64 now.c) (.int .i64 now.fr) (.int .i64 now.to) _ rfl
    have I1 := I.z f1
    have x1 := BlkZ hx f1
    have y1 : nxt own w.heap.size 0 w.heap.size = 0 ∧ Blk _ w.heap.size 58 (ycell now) := BlkNew (own := own) b1 (Nat.le_refl _)
    have ei : (((e.2.1.toNat : Nat) : Int)) = e.2.1 := by omega
    rw [ei] at c0 c1 c2
    refine ⟨e.2.1, by rw [add_g]; exact hx.2.cell 1, a, ha, hit.1, hit.2, _, c0, _, c1, _, c2, u1, z1, u2, z2, u3, z3, _, b1.cell 0, _, b1.cell 1, _, b1.cell 2, ?_⟩
    generalize World.setCell _ _ _ = w1 at I1 x1 y1 ⊢
    generalize nxt own w.heap.size 0 = own1 at I1 x1 y1
    generalize w.heap.size = Y at y1 ⊢
    have hgl : ∀ c, (st.g c).length ≤ 1000 := fun c => by have := V.gl c; omega
    have hci : i64r now.c := i64r_of (by omega)
    refine (known_ok I1.sr I1.mp now hci (by have := hgl now.c; omega)).use ?_
    rintro v w2 ⟨rfl, f2⟩
    have I2 := I1.z f2
    have x2 := BlkZ x1 f2
    have y2 := BlkZ y1 f2
    generalize nxt own1 w1.heap.size 0 = own2 at I2 x2 y2
    refine ⟨_, rfl, ?_⟩
    cases hk : (st.g now.c).any (kn1 now) with
    | true =>
      rw [if_pos hk] at hstep
      refine cT rfl (run_k2 I2 (by omega) x2 fun w3 own3 xb3 I3 x3 => ?_)
      exact hB w3 own3 xb3 A c n cof { st with S := S' } hstep.symm (Nat.le_refl _) I3 x3
    | false =>
      rw [if_neg (by rw [hk]; decide)] at hstep
      obtain ⟨P0, hph⟩ := V.note hS hmem hk
      refine cF rfl (run_k3 I2 hci (hgl now.c) (by omega) x2 y2 fun w3 own3 cof3 I3 x3 y3 => ?_)
      refine run_k4 (st := { st with S := S', g := updF st.g now.c (st.g now.c ++ [now]) }) I3 P0 (by omega) hC hst hT (by show now ∈ updF st.g now.c (st.g now.c ++ [now]) now.c; rw [updF_same]; simp) x3 y3 fun w4 own4 xb4 A4 c4 st4 e4 I4 x4 => ?_
      have eg : st4.g = updF st.g now.c (st.g now.c ++ [now]) := by
        rw [e4]
        exact (P0.pushes (now := now) (g := updF st.g now.c (st.g now.c ++ [now])) hnow.2.2.1 (beyF f from_ (start + 40) now) (fun _ h => h) (by show now ∈ updF st.g now.c (st.g now.c ++ [now]) now.c; rw [updF_same]; simp)).2.1
      refine hB w4 own4 xb4 A4 c4 (n + 1) cof3 st4 (e4.trans hstep.symm) (by rw [eg]; omega) I4 x4
/-- What holds at the head of the loop. -/
def Full (B : Nat) (w0 : World) (f : Fl) (s t m hb : Nat) (from_ start : Int) (nt : Nat) (cft : Nat → Int) (tf : Int → List Wn) (st : RSt) (s' : (Option Addr × Nat × Nat) × (Addr) × (Bool) × Unit) (w : World) : Prop :=
  ∃ (k : Nat) (own : Nat → Nat) (A : Option Addr) (c n xb : Nat) (cof : Nat → Int), s' = ((A, st.all.length, c), ⟨xb, 0, none⟩, !st.S.isEmpty, ()) ∧ st = itr (stepR f from_ (start + 40)) k (runI from_ start) ∧ k + measR f start st ≤ 5 * (42 * f.C.size) + 1 ∧ n + phi start st.g f.C.size ≤ 42 * f.C.size ∧
    RI B w0 w own f s t m hb from_ start (start + 40) st.S.tail st.nx st.all st.g A c n cof nt cft tf ∧ (own xb = 0 ∧ Blk w xb 86 (it2 (hd st.S)))
theorem Sr.set6 (h : Sr w ok f s t m from_ start last) (x : Int) : Sr (w.setCell ⟨s, 6, none⟩ (.int .i64 x)) ok f s t m from_ start x := by
  obtain ⟨h0, nA, nc, lA, lc, vs, h1, h2, h3, h4⟩ := h
  have fs : Fr (fun k => k = s) w (w.setCell ⟨s, 6, none⟩ (.int .i64 x)) := Fr.setCell (F := fun k => k = s) w rfl _
  refine ⟨h0, nA, nc, lA, lc, vs, h1.set 6 _, h2.fr1 fs fun a ha e => h2.ne_blk h1 (by decide) a ha e, fun i hi => ?_, h4.fr1 fs fun a ha e => h4.ne_blk h1 (by decide) a ha e⟩
  obtain ⟨Ai, ci, q1, q2⟩ := h3 i hi
  exact ⟨Ai, ci, q1, q2.fr fs fun k _ h e => h.2 e⟩
theorem run_ok (S : Sr w (fun k => s ≤ k) f s t m from_ start 0) (M : Mp w m 0 (fun k => k = m) (fun _ => 0) (fun _ => [])) (hB : B ≤ m ∧ m < s) (T : Tab w (fun k => k < B) cft t nt tf) (hT : ∀ c, tf c = []) (hC : f.C.size ≤ 256) (hf : 0 ≤ from_ ∧ from_ < (f.C.size : Int)) (hst : 0 ≤ start ∧ start ≤ 1000) :
    Ret Tryd.prog 17 [.pointer (some ⟨s, 0, none⟩), .int .i64 40] w fun v w' => v = .tuple ⟨[]⟩ ∧ (∃ ok1 ok2 n cof, Sr w' ok1 f s t m from_ start (start + 40) ∧ Mp w' m n ok2 cof (runF f from_ start)) ∧ Bel B w w' := by
  apply S17_calls
  obtain ⟨nA, nc, lA, lc, hb0⟩ := S.blk
  have hsl := hb0.lt
  have ew : IntKind.i64.wrap (start + 40) = start + 40 := IntWalk.i64_in _ (by omega)
  refine ⟨_, rfl, start, by rw [add_g]; exact hb0.cell 5, _, rfl, by rw [add_g]; exact hb0.has 6 (by simp), by rw [add_g]; exact hb0.free 6, ?_⟩
  rw [ew, add_g]
  have fs : Fr (fun k => k = s) w (w.setCell ⟨s, 6, none⟩ (.int .i64 (start + 40))) := Fr.setCell (F := fun k => k = s) w rfl _
  have S1 := S.set6 (start + 40)
  have M1 := M.fr fs fun k _ e e' => by have e' : k = s := e'; omega
  have T1 := T.fr fs fun k _ e e' => by have e' : k = s := e'; omega
  have g1 : Bel B w (w.setCell ⟨s, 6, none⟩ (.int .i64 (start + 40))) := fs.bel fun k e => by have e : k = s := e; omega
  have z1 := fs.size
  generalize w.setCell ⟨s, 6, none⟩ (.int .i64 (start + 40)) = w1 at S1 M1 T1 g1 z1 ⊢
  have hm1 := M1.lt
  refine (hnew_ok w1).use ?_
  rintro v w2 ⟨rfl, h2, f2⟩
  have S2 := S1.fr f2 fun _ _ _ h => h
  have M2 := M1.fr f2 fun _ _ _ h => h
  have T2 := T1.fr f2 fun _ _ _ h => h
  refine ⟨_, rfl, ?_⟩
  refine (first_ok S2 T2 (hT from_) (i64r_of (by omega)) hst).use ?_
  rintro v w3 ⟨rfl, f3⟩
  have S3 := S2.fr f3 fun _ _ _ h => h
  have M3 := M2.fr f3 fun _ _ _ h => h
  have T3 := T2.fr f3 fun _ _ _ h => h
  have h3 := h2.fr0 f3
  have fa : Fr none1 w3 (w3.alloc (.cells ⟨[.int .i64 from_, .int .i64 start, .int .i64 1048576]⟩ 58)) := Fr.alloc _ _
  have lit := Own.lit w3 58 3 1 (ycell ⟨from_, start, 1048576⟩) rfl (by simp [maxLen])
  have S4 := S3.fr fa fun _ _ _ h => h
  have M4 := M3.fr fa fun _ _ _ h => h
  have T4 := T3.fr fa fun _ _ _ h => h
  have h4 := h3.fr0 fa
  have s2 := f2.size
  have s3 := f3.size
  have sa := fa.size
  have fb : Bel B w (w3.alloc (.cells ⟨[.int .i64 from_, .int .i64 start, .int .i64 1048576]⟩ 58)) := g1.trans' (f2.trans' (f3.trans' fa)).bel0
  obtain ⟨nA4, nc4, lA4, lc4, hb4⟩ := S4.blk
  have hbl := h2.2.1
  -- whose is what
  have I4 : RI B w (w3.alloc (.cells ⟨[.int .i64 from_, .int .i64 start, .int .i64 1048576]⟩ 58)) (fun k => if k < B then 5 else if k = m then 2 else if k < w1.heap.size then 1 else if k < w3.heap.size then 4 else 3) f s t m w1.heap.size from_ start (start + 40) [] 0 [⟨from_, start, 1048576⟩] (fun _ => []) (some ⟨w3.heap.size, 0, none⟩) 1 0 (fun _ => 0) nt cft tf := by
    refine ⟨((S1.mono (ok' := fun k => s ≤ k ∧ k < w1.heap.size) fun k hk h => ⟨h, hk⟩).fr (f2.trans' (f3.trans' fa)) fun _ _ _ h => h).mono fun k _ h => ?_, M4.mono fun k _ e => ?_, lit.mono fun k _ e => ?_, ((h2.mono (ok' := fun k => w1.heap.size ≤ k ∧ k < w2.heap.size) fun k hk h => ⟨h, hk⟩).fr (f3.trans' fa) fun _ _ _ h => h).mono fun k _ h => ?_, T4.mono fun k _ h => if_pos h, fun k h => if_pos h, by omega, fb⟩
    · show (if k < B then 5 else if k = m then 2 else if k < w1.heap.size then 1 else if k < w3.heap.size then 4 else 3) = 1
      rw [if_neg (by omega), if_neg (by omega), if_pos h.2]
    · have e : k = m := e
      show (if k < B then 5 else if k = m then 2 else if k < w1.heap.size then 1 else if k < w3.heap.size then 4 else 3) = 2
      rw [if_neg (by omega), if_pos e]
    · have e : k = w3.heap.size := e
      show (if k < B then 5 else if k = m then 2 else if k < w1.heap.size then 1 else if k < w3.heap.size then 4 else 3) = 3
      rw [if_neg (by omega), if_neg (by omega), if_neg (by omega), if_neg (by omega)]
    · show (if k < B then 5 else if k = m then 2 else if k < w1.heap.size then 1 else if k < w3.heap.size then 4 else 3) = 4
      rw [if_neg (by omega), if_neg (by omega), if_neg (by omega), if_pos (by omega)]
  refine ⟨_, _, _, rfl, _, rfl, start, by rw [add_g]; exact hb4.cell 5, ?_⟩
  generalize (fun k => if k < B then 5 else if k = m then 2 else if k < w1.heap.size then 1 else if k < w3.heap.size then 4 else 3 : Nat → Nat) = own4 at I4
  generalize w3.alloc (.cells ⟨[.int .i64 from_, .int .i64 start, .int .i64 1048576]⟩ 58) = w4 at I4 ⊢
  generalize w1.heap.size = hb at I4 ⊢
  refine (hpush_ok I4.hp (by omega) (start, 0)).use ?_
  rintro v w5 ⟨rfl, h5, f5⟩
  have I5 := I4.heap f5 h5
  generalize nxt own4 w4.heap.size 4 = own5 at I5
  refine ⟨rfl, ?_⟩
  refine (hpop_ok I5.hp (by omega)).use ?_
  rintro v w6 ⟨rfl, h6, f6⟩
  have I6 := I5.heap f6 (h6.mono fun k _ e => .inl e)
  generalize nxt own5 w5.heap.size 4 = own6 at I6
  obtain ⟨p1, p2, p3, p4, b7, f7⟩ := cp2 w6 86 (.int .i64 0) (.int .i64 0) (.int .i64 start) (.int .i64 0)
  have I7 := I6.z f7
  have x7 := BlkNew (own := own6) b7 (Nat.le_refl _)
  refine ⟨start, 0, true, rfl, p1, p2, p3, p4, fun s' w' => ∃ st, Full B w f s t m hb from_ start nt cft tf st s' w', fun s' w' => mu fun q => ∃ st, Full B w f s t m hb from_ start nt cft tf st s' w' ∧ measR f start st = q, ⟨runI from_ start, 0, _, _, _, _, _, _, rfl, rfl, ?_, ?_, I7, x7⟩, ?_⟩
  · unfold measR runI
    rw [phi_zero]
    simp
  · show 0 + phi start (fun _ => []) f.C.size ≤ _
    rw [phi_zero]; omega
  rintro J s' w8 hI
  dsimp only
  obtain ⟨st, ⟨k, own8, A8, c8, n8, xb8, cof8, rfl, hk, hm8, hn8, I8, x8⟩, hmu⟩ := mu_spec (P := fun q => ∃ st, Full B w f s t m hb from_ start nt cft tf st s' w8 ∧ measR f start st = q) (by obtain ⟨st, h⟩ := hI; exact ⟨_, st, h, rfl⟩)
  rw [← hmu]
  have V : RInv f from_ start st := hk ▸ RInv.atk hf k
  dsimp only
  by_cases hne : st.S = []
  · rw [hne]
    refine cF rfl ⟨rfl, ⟨fun k => own8 k = 1, fun k => own8 k = 2, n8, cof8, I8.sr, ?_⟩, I8.bel⟩
    rw [← run_end hk hm8 hne]
    exact I8.mp
  · have he : (!st.S.isEmpty) = true := by cases h : st.S with
      | nil => exact absurd h hne
      | cons => rfl
    refine cT he (run_k1 I8 V hne hC (by omega) hst hT x8 fun w9 own9 xb9 A9 c9 n9 cof9 st9 e9 hn9 I9 x9 => ?_)
    have hlt := (V.step hne).2
    rw [← e9] at hlt
    have F9 : Full B w f s t m hb from_ start nt cft tf st9 ((A9, st9.all.length, c9), ⟨xb9, 0, none⟩, !st9.S.isEmpty, ()) w9 := ⟨k + 1, own9, A9, c9, n9, xb9, cof9, rfl, by rw [itr_succ, ← hk, e9], by omega, by omega, I9, x9⟩
    exact ⟨⟨st9, F9⟩, Nat.lt_of_le_of_lt (mu_le ⟨st9, F9, rfl⟩) hlt⟩
end
end Go.Proofs
