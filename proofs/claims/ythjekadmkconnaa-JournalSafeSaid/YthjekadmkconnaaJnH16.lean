/- Laws of journals: what is safe, and any disk. -/
import Derived.Test.YthjekadmkconnaaJnG16
set_option linter.unusedVariables false
namespace Go.Proofs
open Go Go.Eng
/-- A list of rows of bytes, as the law grows it: its own row lies in K. -/
def AllAt (K : Nat → Prop) (B : Nat) (w : World) (A : Option Addr) (c : Nat) (l : List Bs) : Prop :=
  ∃ (okO okR : Nat → Prop) (vs : List Value), (Own w 30 1 okO A l.length c vs ∨ (c = l.length ∧ Rd w okO A vs)) ∧ Bss w okR vs l ∧ (∀ k, okO k → okR k → False) ∧ (∀ k, okO k → K k) ∧ (∀ k, okR k → K k ∨ k < B)
section
variable {K : Nat → Prop} {B : Nat} {w : World} {A : Option Addr} {c : Nat} {l : List Bs}
theorem AllAt.nil (K : Nat → Prop) (B : Nat) (w : World) : AllAt K B w none 0 [] := ⟨fun _ => False, fun _ => False, [], .inl (Own.nil _ _ _ _), Bss.nil _ _, fun _ h => h.elim, fun _ h => h.elim, fun _ h => h.elim⟩
theorem AllAt.fr {F : Nat → Prop} {w' : World} (h : AllAt K B w A c l) (f : Fr F w w') (hF : ∀ k, k < w.heap.size → (K k ∨ k < B) → ¬ F k) : AllAt K B w' A c l := by
  obtain ⟨o1, o2, vs, h1, h2, h3, h4, h5⟩ := h
  refine ⟨o1, o2, vs, h1.imp (fun h => h.fr f fun k hk ho => hF k hk (.inl (h4 k ho))) (fun h => ⟨h.1, h.2.fr f fun k hk ho => hF k hk (.inl (h4 k ho))⟩), h2.fr f fun k hk ho => hF k hk (h5 k ho), h3, h4, h5⟩
theorem AllAt.off {w' : World} (h : AllAt K B w A c l) (f : Fr (offK K B) w w') : AllAt K B w' A c l := h.fr f fun k _ hk ho => by
  rcases hk with hk | hk
  · exact ho.2 hk
  · have := ho.1; omega
theorem AllAt.fr0 {w' : World} (h : AllAt K B w A c l) (f : Fr none1 w w') : AllAt K B w' A c l := h.fr f fun _ _ _ h => h
theorem AllAt.mono {K' : Nat → Prop} (h : AllAt K B w A c l) (hK : ∀ k, K k → K' k) : AllAt K' B w A c l := by
  obtain ⟨o1, o2, vs, h1, h2, h3, h4, h5⟩ := h
  exact ⟨o1, o2, vs, h1, h2, h3, fun k h => hK k (h4 k h), fun k h => (h5 k h).imp (hK k) id⟩
theorem AllAt.rs (h : AllAt K B w A c l) : RS w A l := by
  obtain ⟨o1, o2, vs, h1, h2, _⟩ := h
  refine ⟨vs, ?_, h2.mono fun _ _ _ => trivial⟩
  rcases h1 with h | h
  · exact h.rd.mono fun _ _ _ => trivial
  · exact h.2.mono fun _ _ _ => trivial
theorem AllAt.le (h : AllAt K B w A c l) : l.length ≤ c := by
  obtain ⟨_, _, _, h1, _⟩ := h
  rcases h1 with h | h
  · exact h.le
  · omega
theorem AllAt.snoc (h : AllAt K B w A c l) (hBw : B ≤ w.heap.size) {Ar : Option Addr} {cr : Nat} {ys : Bs} (hr : Rd w (fun k => k < B) Ar (bvs ys)) (hcr : ys.length ≤ cr) (hKB : ∀ k, K k → B ≤ k) (hl : l.length ≤ 1000000) :
    ∃ A' c' w', (Builtin.append_ #[22, 22] 22 ⟨[.slice A l.length c, .slice (some ⟨w.heap.size, 0, none⟩) 1 1]⟩).run Try.prog (w.alloc (.cells ⟨[.slice Ar ys.length cr]⟩ 30)) = .ok (.slice A' (l.length + 1) c') w' ∧
      AllAt (fun k => K k ∨ (w.heap.size ≤ k ∧ k < w'.heap.size)) B w' A' c' (l ++ [ys]) ∧ Fr K w w' := by
  obtain ⟨o1, o2, vs, h1, h2, hdd, s1, s2⟩ := h
  have a2 : Fr none1 w (w.alloc (.cells ⟨[.slice Ar ys.length cr]⟩ 30)) := Fr.alloc _ _
  have lit := Own.lit w 30 1 1 [.slice Ar ys.length cr] rfl (by simp [maxLen])
  have hs := a2.size
  have hr' : Rd w (fun k => k < w.heap.size ∧ (o2 k ∨ k < B)) Ar (bvs ys) := hr.mono fun k hk h => ⟨hk, .inr h⟩
  have b1 : Bss w (fun k => k < w.heap.size ∧ (o2 k ∨ k < B)) vs l := h2.mono fun k hk h => ⟨hk, .inl h⟩
  obtain ⟨A', c', w', r, o, f⟩ : ∃ A' c' w', (Builtin.append_ #[22, 22] 22 ⟨[.slice A l.length c, .slice (some ⟨w.heap.size, 0, none⟩) 1 1]⟩).run Try.prog (w.alloc (.cells ⟨[.slice Ar ys.length cr]⟩ 30)) = .ok (.slice A' (l.length + 1) c') w' ∧
      Own w' 30 1 (fun k => (o1 k ∧ k < w.heap.size) ∨ w.heap.size ≤ k) A' (l.length + 1) c' (vs ++ [.slice Ar ys.length cr]) ∧ Fr (fun k => o1 k ∧ k < w.heap.size) w w' := by
    rcases h1 with h1 | ⟨rfl, h1⟩
    · have h1' : Own w 30 1 (fun k => o1 k ∧ k < w.heap.size) A l.length c vs := h1.mono fun k hk h => ⟨h, hk⟩
      obtain ⟨A', c', w', r, o, f, _⟩ := run_append (ty := 22) (m := 1) (c2 := 1) Ess (h1'.fr a2 fun _ _ _ h => h) rfl lit.rd (fun v hv => by simp at hv; subst hv; rfl) (by omega) (by simp only [maxLen]; omega)
      refine ⟨A', c', w', r, o.mono fun k _ h => h.imp id (fun h => Nat.le_trans hs h), (a2.mono fun _ _ h => h.elim).trans' (f.mono fun k _ ⟨a, ha, e⟩ => e ▸ ?_)⟩
      exact (h1'.has a ha).1
    · have hv1 : vs.length = l.length * 1 := by rw [Nat.mul_one]; exact h2.1
      obtain ⟨A', c', w', r, o, f⟩ := run_append_full (ty := 22) (m := 1) (c2 := 1) Ess hv1 (h1.fr a2 fun _ _ _ h => h) rfl lit.rd (fun v hv => by simp at hv; subst hv; rfl) (by decide) (by omega) (by simp only [maxLen]; omega)
      exact ⟨A', c', w', r, o.mono fun k _ h => .inr (Nat.le_trans hs h), (a2.trans' f).mono fun _ _ h => h.elim⟩
  have ne : ∀ k, (k < w.heap.size ∧ (o2 k ∨ k < B)) → ¬ (o1 k ∧ k < w.heap.size) := fun k hk e => by
    rcases hk.2 with h | h
    · exact hdd k e.1 h
    · have := hKB k (s1 k e.1); omega
  refine ⟨A', c', w', r, ⟨fun k => ((o1 k ∧ k < w.heap.size) ∨ w.heap.size ≤ k) ∧ k < w'.heap.size, fun k => k < w.heap.size ∧ (o2 k ∨ k < B), vs ++ [.slice Ar ys.length cr], .inl ?_, ?_, fun k ho hr => ?_, fun k ho => ?_, fun k hk => ?_⟩, f.mono fun k _ h => s1 k h.1⟩
  · rw [List.length_append]
    exact o.mono fun k hk h => ⟨h, hk⟩
  · exact (b1.fr f fun k _ hk => ne k hk).snoc hcr (hr'.fr f fun k _ hk => ne k hk)
  · rcases ho.1 with ho | ho
    · exact ne k hr ho
    · have := hr.1; omega
  · rcases ho.1 with h | h
    · exact .inl (s1 k h.1)
    · exact .inr ⟨h, ho.2⟩
  · rcases hk.2 with h | h
    · exact (s2 k h).imp .inl id
    · exact .inr h
end
section
variable {W : World} {A : Option Addr} {c : Nat} {xss : List Bs}
/-- The state of the laws that keep all that was noted. -/
def StN (B : Nat) (w : World) (j d : Nat) (D : Dsk) (A : Option Addr) (c : Nat) (l : List Bs) : Prop := ∃ K, JnK K B w j d D l.length ∧ AllAt K B w A c l ∧ ∀ k, K k → B ≤ k
/-- A note, and the list grown by it. -/
theorem StN.snoc {B : Nat} {w w1 : World} {j d : Nat} {D D' : Dsk} {A : Option Addr} {c : Nat} {l : List Bs} {K : Nat → Prop} (hj : JnK K B w j d D' (l.length + 1)) (ha : AllAt K B w A c l) (hK : ∀ k, K k → B ≤ k) {Ar : Option Addr} {cr : Nat} {ys : Bs} (hr : Rd w (fun k => k < B) Ar (bvs ys)) (hcr : ys.length ≤ cr) (hl : l.length ≤ 1000000) :
    ∃ A' c' w', (Builtin.append_ #[22, 22] 22 ⟨[.slice A l.length c, .slice (some ⟨w.heap.size, 0, none⟩) 1 1]⟩).run Try.prog (w.alloc (.cells ⟨[.slice Ar ys.length cr]⟩ 30)) = .ok (.slice A' (l.length + 1) c') w' ∧ StN B w' j d D' A' c' (l ++ [ys]) ∧ Bel B w w' ∧ Fr K w w' := by
  obtain ⟨A', c', w', r, a, f⟩ := ha.snoc hj.2.1.2.2 hr hcr hK hl
  refine ⟨A', c', w', r, ⟨_, ?_, a, fun k hk => ?_⟩, f.bel hK, f⟩
  · rw [List.length_append]
    exact hj.grow f fun k _ h => .inl h
  · rcases hk with hk | hk
    · exact hK k hk
    · have := hj.2.1.2.2; omega
theorem take_frames {l : List Bs} {n : Nat} (hn : n ≤ l.length) : (frames l).take (frames (l.take n)).length = frames (l.take n) := by
  obtain ⟨u, hu⟩ := frames_mono (xss := l) hn
  rw [List.take_length] at hu
  rw [hu, List.take_append_of_le_length (Nat.le_refl _), List.take_length]
theorem frames_take_le {l : List Bs} {n : Nat} (hn : n ≤ l.length) : (frames (l.take n)).length ≤ (frames l).length := by
  obtain ⟨u, hu⟩ := frames_mono (xss := l) hn
  rw [List.take_length] at hu
  rw [hu, List.length_append]; omega
theorem journalSafe_ok (h : Arg W A c xss) {n : Nat} (hn : n < 256) : Ret Try.prog 3 [.slice A xss.length c, .int .u8 (n : Int)] W (Done W) := by
  have hcm : xss.length ≤ maxLen := by obtain ⟨_, _, _, h1, h2⟩ := h; omega
  simp only [maxLen] at hcm
  apply S3_calls
  refine (shown_ok W).use ?_
  rintro v w1 ⟨rfl, f1⟩
  refine ⟨_, rfl, ?_⟩
  refine (DkK.new (K := fun _ => False) (B := W.heap.size) f1.size (fun _ h => h.elim)).use ?_
  rintro v w2 ⟨rfl, h2, f2⟩
  generalize w1.heap.size = d at h2 ⊢
  refine ⟨_, rfl, ?_⟩
  refine (open0 h2).use ?_
  rintro v w3 ⟨j, A3, c3, rfl, h3, f3⟩
  have g3 : Bel W.heap.size W w3 := f1.bel0.trans' (f2.bel0.trans' (offK_bel f3))
  refine ⟨_, _, _, _, _, rfl, cF rfl (cF rfl ?_)⟩
  refine ⟨fun s w' => ∃ i sf : Nat, s.2.2.1 = (i : Int) ∧ i ≤ xss.length ∧ i ≤ 40 ∧ s.2.1 = (sf : Int) ∧ sf ≤ i ∧ s.1.2.1 = i ∧ (∀ y ∈ xss.take i, y.length ≤ 1000) ∧ StN W.heap.size w' j d ⟨frames (xss.take i), (frames (xss.take sf)).length, false, -1⟩ s.1.1 s.1.2.2 (xss.take i) ∧ Bel W.heap.size W w', fun s _ => xss.length - s.2.2.1.toNat, ⟨0, 0, rfl, Nat.zero_le _, Nat.zero_le _, rfl, Nat.zero_le _, rfl, by simp, ⟨_, h3, AllAt.nil _ _ _, fun _ h => h.elim⟩, g3⟩, ?_⟩
  rintro J ⟨⟨A4, l4, c4⟩, s', i', ⟨⟩⟩ w4 ⟨i, sf, hi, hil, hi40, hs, hsf, hl4, hsm, h4, g4⟩
  dsimp only at hi hs hl4 h4 ⊢
  subst hi hs hl4
  have hlen : (xss.take l4).length = l4 := by rw [List.length_take]; omega
  have hfl := frames_le hsm
  rw [hlen] at hfl
  have esf : xss.take sf = (xss.take l4).take sf := by rw [List.take_take, Nat.min_eq_left hsf]
  have hle := frames_take_le (l := xss.take l4) (n := sf) (by omega)
  have htk := take_frames (l := xss.take l4) (n := sf) (by omega)
  rw [← esf] at hle htk
  have hsm2 : ∀ y ∈ xss.take sf, y.length ≤ 1000 := fun y hy => hsm y (by rw [esf] at hy; exact List.mem_of_mem_take hy)
  obtain ⟨K, hj, ha, hK⟩ := h4
  rw [hlen] at hj
  have fin : S3_k5 true (some ⟨d, 0, none⟩) A4 l4 c4 (sf : Int) w4 (Done W) := by
    refine (hj.2.1.crash 0).use ?_
    rintro v w5 ⟨rfl, h5, f5⟩
    have e5 : crD ⟨frames (xss.take l4), (frames (xss.take sf)).length, false, -1⟩ 0 = ⟨frames (xss.take sf), (frames (xss.take sf)).length, false, -1⟩ := by
      have hk : kept ⟨frames (xss.take l4), (frames (xss.take sf)).length, false, -1⟩ 0 = 0 := by unfold kept; simp
      unfold crD
      rw [hk]
      simp only [Nat.add_zero, htk]
    rw [e5] at h5
    have hsc := scan_frames hsm2
    refine ⟨rfl, ?_⟩
    refine (open_ok h5 ⟨rfl, rfl⟩ (by simp only; omega)).use ?_
    rintro v w6 ⟨j6, hi6, A6, c6, rfl, fo6, h6, f6, _, _⟩
    simp only [hsc] at fo6 ⊢
    have hcl := ha.le
    rw [hlen] at hcl
    have a5 := (ha.off (offK_sub (fun k => .inl) f5)).off (offK_sub (fun k => .inl) f6)
    refine ⟨_, _, _, _, _, rfl, cT rfl (cT rfl ⟨by omega, by omega, ?_⟩)⟩
    have e6 : (xss.take sf).length = Int.toNat (sf : Int) - 0 := by rw [List.length_take]; omega
    have r5 : RS w6 (slAddr A4 c4 0 1) (xss.take sf) := by
      rw [slAddr_zero, esf]; exact a5.rs.take sf
    have hsame := same_ok (c1 := c6) (c2 := c4 - 0) fo6.rs r5 (by simp only [maxLen]; rw [List.length_take]; omega)
    rw [e6] at hsame
    rw [e6]
    refine hsame.use ?_
    rintro v w7 ⟨rfl, f7⟩
    exact ⟨_, rfl, by rw [decide_eq_true rfl], (g4.trans' ((offK_bel f5).trans' ((offK_bel f6).trans' f7.bel0))).top⟩
  refine cD (fun hlt => ?_) (fun _ => fin)
  have hlt' : l4 < xss.length := by have : (l4 : Int) < (xss.length : Int) := hlt; omega
  refine cD (fun _ => cT rfl fin) (fun h40 => ?_)
  have hx : xss[l4]? = some xss[l4] := List.getElem?_eq_getElem hlt'
  obtain ⟨a, Bq, cq, hA, hcell, hcap, hr⟩ := h.at g4 hx
  have hstep : xss.take (l4 + 1) = xss.take l4 ++ [xss[l4]] := by rw [List.take_add_one, hx]; rfl
  generalize xss[l4] = y at hx hcell hcap hr hstep
  refine ⟨a, hA, by omega, by omega, Bq, _, cq, hcell, cD (fun _ => fin) (fun h1000 => ?_)⟩
  have hy : y.length ≤ 1000 := by omega
  refine ⟨a, hA, by omega, by omega, Bq, _, cq, hcell, ?_⟩
  refine (note_live hj ⟨rfl, rfl⟩ (by simp only; omega) (c := cq) hr hy (by omega)).use ?_
  rintro v w5 ⟨rfl, h5, f5⟩
  have g5 := g4.trans' (offK_bel f5)
  obtain ⟨a', Bq', cq', hA', hcell', hcap', hr'⟩ := h.at g5 hx
  rw [hA] at hA'
  cases hA'
  have h5' : JnK K W.heap.size w5 j d ⟨frames (xss.take l4) ++ framed y, (frames (xss.take sf)).length, false, -1⟩ ((xss.take l4).length + 1) := by rw [hlen]; exact h5
  obtain ⟨A6, c6, w6, r6, st6, g56, _⟩ := StN.snoc (D := ⟨frames (xss.take l4), (frames (xss.take sf)).length, false, -1⟩) (w1 := w5) h5' (ha.off f5) hK hr' hcap' (by omega)
  rw [hlen] at r6
  refine ⟨_, rfl, cF rfl ⟨a, hA, by omega, by omega, Bq', _, cq', hcell', A6, _, c6, w6, r6, by decide, ?_⟩⟩
  have g6 := g5.trans' g56
  rw [← frames_snoc, ← hstep] at st6
  have hsm' : ∀ z ∈ xss.take (l4 + 1), z.length ≤ 1000 := fun z hz => by
    rw [hstep, List.mem_append] at hz
    rcases hz with hz | hz
    · exact hsm z hz
    · rw [List.mem_singleton] at hz; subst hz; exact hy
  have hl1 : (xss.take (l4 + 1)).length = l4 + 1 := by rw [List.length_take]; omega
  refine cD (fun _ => ?_) (fun _ => ?_)
  · obtain ⟨K6, hj6, ha6, hK6⟩ := st6
    rw [hl1] at hj6
    refine (jsync_ok hj6).use ?_
    rintro v w7 ⟨rfl, h7, f7⟩
    obtain ⟨s1, s2⟩ := (show Live ⟨frames (xss.take (l4 + 1)), (frames (xss.take sf)).length, false, -1⟩ from ⟨rfl, rfl⟩).sync
    rw [s2] at h7
    rw [s1]
    refine ⟨_, rfl, cF rfl ?_⟩
    rw [IntWalk.i64_in _ (by omega)]
    exact ⟨⟨l4 + 1, l4 + 1, rfl, by omega, by omega, rfl, Nat.le_refl _, rfl, hsm', ⟨K6, by rw [hl1]; exact h7, ha6.off f7, hK6⟩, g6.trans' (offK_bel f7)⟩, by dsimp only; omega⟩
  · rw [IntWalk.i64_in _ (by omega)]
    exact ⟨⟨l4 + 1, sf, rfl, by omega, by omega, rfl, by omega, rfl, hsm', st6, g6⟩, by dsimp only; omega⟩
end
end Go.Proofs
