/- Laws of journals: any disk. -/
import Derived.Test.YthjekadmkconnaaJnH16
set_option linter.unusedVariables false
namespace Go.Proofs
open Go Go.Eng
theorem Bss.one {w : World} {ok : Nat → Prop} {vs : List Value} {l : List Bs} (h : Bss w ok vs l) : ∀ u ∈ vs, u.oneCell' = true := by
  intro u hu
  obtain ⟨i, hi, rfl⟩ := List.mem_iff_getElem.1 hu
  have hl : i < l.length := by rw [← h.1]; exact hi
  obtain ⟨A, c, h1, _⟩ := h.2 i l[i] (List.getElem?_eq_getElem hl)
  rw [List.getElem?_eq_getElem hi] at h1
  rw [Option.some.inj h1]
  rfl
theorem frames_ge : ∀ l : List Bs, l.length ≤ (frames l).length
  | [] => by simp [frames]
  | y :: l => by
    have h := frames_ge l
    have e : frames (y :: l) = framed y ++ frames l := by simp [frames]
    rw [e, List.length_append, framed_length, List.length_cons]; omega
section
variable {W : World} {A0 A : Option Addr} {c0 c : Nat} {first : Bs} {xss : List Bs}
theorem journalAny_ok (h0 : Rd W (fun k => k < W.heap.size) A0 (bvs first)) (h : Arg W A c xss) : Ret Try.prog 4 [.slice A0 first.length c0, .slice A xss.length c] W (Done W) := by
  have hcm : xss.length ≤ maxLen := by obtain ⟨_, _, _, h1, h2⟩ := h; omega
  simp only [maxLen] at hcm
  apply S4_calls
  refine (shown_ok W).use ?_
  rintro v w1 ⟨rfl, f1⟩
  refine ⟨_, rfl, cD (fun _ => ⟨rfl, f1⟩) (fun hl0 => ?_)⟩
  have hf0 : first.length ≤ 5000 := by omega
  refine (DkK.new (K := fun _ => False) (B := W.heap.size) f1.size (fun _ h => h.elim)).use ?_
  rintro v w2 ⟨rfl, h2, f2⟩
  have hd : W.heap.size ≤ w1.heap.size := f1.size
  generalize w1.heap.size = d at h2 hd ⊢
  refine ⟨_, rfl, ?_⟩
  have r2 := (h0.fr f1 fun _ _ _ h => h).fr f2 fun _ _ _ h => h
  refine (h2.append (c2 := c0) (xs := first) (fun w' f => r2.fr f fun k _ hk e => by have e : k = d := e; omega)).use ?_
  rintro v w3 ⟨rfl, h3, f3⟩
  have hap := (show Live ⟨[], 0, false, -1⟩ from ⟨rfl, rfl⟩).append (xs := first) (by simp only [List.length_nil]; omega)
  rw [hap.2] at h3
  simp only [List.nil_append] at h3
  refine ⟨_, rfl, ?_⟩
  refine (open_ok h3 ⟨rfl, rfl⟩ (by simp only; omega)).use ?_
  rintro v w4 ⟨j, hi, A4, c4, rfl, fo4, h4, f4, hi1, hi2⟩
  have g4 : Bel W.heap.size W w4 := f1.bel0.trans' (f2.bel0.trans' ((offK_bel f3).trans' (offK_bel f4)))
  obtain ⟨rest, hs1, hs2, _, hsm0⟩ := scanB_spec first
  have hob := opD_bs ⟨first, 0, false, -1⟩
  simp only at hob fo4 h4 ⊢
  have hOD : opD ⟨first, 0, false, -1⟩ = ⟨frames (scanB first).1, (frames (scanB first).1).length, false, -1⟩ := by
    have e : opD ⟨first, 0, false, -1⟩ = ⟨(opD ⟨first, 0, false, -1⟩).bs, (opD ⟨first, 0, false, -1⟩).safe, false, -1⟩ := rfl
    rw [e, hob.1, hob.2]
  rw [hOD] at h4
  have hfa : (frames (scanB first).1).length ≤ 5000 := by
    have := scanB_le first
    rw [hs2] at this; omega
  clear hob hOD hs1 hs2
  generalize (scanB first).1 = a at *
  have hal := frames_ge a
  refine ⟨_, _, _, _, _, rfl, cF rfl (cF rfl ?_)⟩
  -- the list is doubled
  obtain ⟨vs, fo, fb⟩ := fo4
  have hgl : w3.heap.size ≤ w4.heap.size := f4.size
  have hj4 := h4.1.lt
  have hB3 : W.heap.size ≤ w3.heap.size := h3.2.2
  obtain ⟨A5, c5, w5, r5, o5, f5⟩ := dupl0 (ty := 22) (c2 := c4) Ess (m := a.length) (by rw [Nat.mul_one]; exact fb.1) fo.rd fb.one (by omega) (by simp only [maxLen]; omega)
  have g5 := g4.trans' f5.bel0
  have st5 : StN W.heap.size w5 j d ⟨frames a, (frames a).length, false, -1⟩ A5 c5 a := by
    refine ⟨_, h4.grow f5 fun _ _ h => h.elim, ⟨fun k => w4.heap.size ≤ k ∧ k < w5.heap.size, fun k => w3.heap.size ≤ k ∧ k < hi, vs, .inl (o5.mono fun k hk h => ⟨h, hk⟩), fb.fr f5 fun _ _ _ h => h, fun k h1 h2 => by omega, fun k hk => .inr hk, fun k hk => .inl (.inl (.inr hk))⟩, fun k hk => ?_⟩
    rcases hk with (hk | hk) | hk
    · exact hk.elim
    · omega
    · omega
  refine ⟨A5, _, c5, w5, r5, ?_⟩
  refine ⟨fun s w' => ∃ i : Nat, s.2.1 = (i : Int) ∧ i ≤ xss.length ∧ i ≤ 20 ∧ s.1.2.1 = a.length + i ∧ (∀ y ∈ xss.take i, y.length ≤ 1000) ∧ StN W.heap.size w' j d ⟨frames (a ++ xss.take i), (frames a).length, false, -1⟩ s.1.1 s.1.2.2 (a ++ xss.take i) ∧ Bel W.heap.size W w', fun s _ => xss.length - s.2.1.toNat, ⟨0, rfl, Nat.zero_le _, Nat.zero_le _, rfl, by simp, by simpa using st5, g5⟩, ?_⟩
  rintro J ⟨⟨A6, l6, c6⟩, i', ⟨⟩⟩ w6 ⟨i, hi', hil, hi20, hl6, hsm, h6, g6⟩
  dsimp only at hi' hl6 h6 ⊢
  subst hi' hl6
  have hlt6 : (xss.take i).length = i := by rw [List.length_take]; omega
  have hlen : (a ++ xss.take i).length = a.length + i := by rw [List.length_append, hlt6]
  have hsmA : ∀ y ∈ a ++ xss.take i, y.length ≤ 1000 := fun y hy => by
    rcases List.mem_append.1 hy with hy | hy
    · exact hsm0 y hy
    · exact hsm y hy
  have hfl := frames_le hsm
  rw [hlt6] at hfl
  have hfA : (frames (a ++ xss.take i)).length ≤ 5000 + 1004 * i := by rw [frames_append, List.length_append]; omega
  obtain ⟨K, hj, ha, hK⟩ := h6
  rw [hlen] at hj
  have fin : S4_k6 true (some ⟨d, 0, none⟩) (some ⟨j, 0, none⟩) A6 (a.length + i) c6 w6 (Done W) := by
    refine (jsync_ok hj).use ?_
    rintro v w7 ⟨rfl, h7, f7⟩
    obtain ⟨s1, s2⟩ := (show Live ⟨frames (a ++ xss.take i), (frames a).length, false, -1⟩ from ⟨rfl, rfl⟩).sync
    rw [s2] at h7
    rw [s1]
    refine ⟨_, rfl, cF rfl ?_⟩
    refine (jlen_ok h7).use ?_
    rintro v w7 ⟨rfl, rfl⟩
    refine ⟨_, rfl, cF (by simp) ?_⟩
    refine (h7.2.1.crash 0).use ?_
    rintro v w8 ⟨rfl, h8, f8⟩
    have e8 : crD ⟨frames (a ++ xss.take i), (frames (a ++ xss.take i)).length, false, -1⟩ 0 = ⟨frames (a ++ xss.take i), (frames (a ++ xss.take i)).length, false, -1⟩ := by
      have hk : kept ⟨frames (a ++ xss.take i), (frames (a ++ xss.take i)).length, false, -1⟩ 0 = 0 := by unfold kept; simp
      unfold crD
      rw [hk]
      simp only [Nat.add_zero, List.take_length]
    have h8' : DkK (fun k => K k ∨ k = j) W.heap.size w8 d ⟨frames (a ++ xss.take i), (frames (a ++ xss.take i)).length, false, -1⟩ := by rw [← e8]; exact h8
    have hsc := scan_frames hsmA
    refine ⟨rfl, ?_⟩
    refine (open_ok h8' ⟨rfl, rfl⟩ (by simp only; omega)).use ?_
    rintro v w9 ⟨j9, hi9, A9, c9, rfl, fo9, h9, f9, _, _⟩
    simp only [hsc] at fo9 ⊢
    have a9 := ((ha.off f7).off (offK_sub (fun k => .inl) f8)).off (offK_sub (fun k => .inl) f9)
    refine ⟨_, _, _, _, _, rfl, cT rfl (cT rfl ?_)⟩
    have hsame := same_ok (c1 := c9) (c2 := c6) fo9.rs a9.rs (by simp only [maxLen]; omega)
    rw [hlen] at hsame
    rw [hlen]
    refine hsame.use ?_
    rintro v w10 ⟨rfl, f10⟩
    exact ⟨_, rfl, by rw [decide_eq_true rfl], (g6.trans' ((offK_bel f7).trans' ((offK_bel f8).trans' ((offK_bel f9).trans' f10.bel0)))).top⟩
  refine cD (fun hlt => ?_) (fun _ => fin)
  have hlt' : i < xss.length := by have : (i : Int) < (xss.length : Int) := hlt; omega
  refine cD (fun _ => cT rfl fin) (fun h20 => ?_)
  have hx : xss[i]? = some xss[i] := List.getElem?_eq_getElem hlt'
  obtain ⟨q, Bq, cq, hA, hcell, hcap, hr⟩ := h.at g6 hx
  have hstep : xss.take (i + 1) = xss.take i ++ [xss[i]] := by rw [List.take_add_one, hx]; rfl
  generalize xss[i] = y at hx hcell hcap hr hstep
  refine ⟨q, hA, by omega, by omega, Bq, _, cq, hcell, cD (fun _ => fin) (fun h1000 => ?_)⟩
  have hy : y.length ≤ 1000 := by omega
  refine ⟨q, hA, by omega, by omega, Bq, _, cq, hcell, ?_⟩
  refine (note_live hj ⟨rfl, rfl⟩ (by simp only; omega) (c := cq) hr hy (by omega)).use ?_
  rintro v w7 ⟨rfl, h7, f7⟩
  have g7 := g6.trans' (offK_bel f7)
  obtain ⟨q', Bq', cq', hA', hcell', hcap', hr'⟩ := h.at g7 hx
  rw [hA] at hA'
  cases hA'
  have h7' : JnK K W.heap.size w7 j d ⟨frames (a ++ xss.take i) ++ framed y, (frames a).length, false, -1⟩ ((a ++ xss.take i).length + 1) := by rw [hlen]; exact h7
  obtain ⟨A8, c8, w8, r8, st8, g78, _⟩ := StN.snoc (D := ⟨frames (a ++ xss.take i), (frames a).length, false, -1⟩) (w1 := w7) h7' (ha.off f7) hK hr' hcap' (by omega)
  rw [hlen] at r8
  refine ⟨_, rfl, cF rfl ⟨q, hA, by omega, by omega, Bq', _, cq', hcell', A8, _, c8, w8, r8, ?_⟩⟩
  rw [← frames_snoc, List.append_assoc, ← hstep] at st8
  rw [IntWalk.i64_in _ (by omega)]
  refine ⟨⟨i + 1, rfl, by omega, by omega, rfl, fun z hz => ?_, st8, g7.trans' g78⟩, by dsimp only; omega⟩
  rw [hstep, List.mem_append] at hz
  rcases hz with hz | hz
  · exact hsm z hz
  · rw [List.mem_singleton] at hz; subst hz; exact hy
end
end Go.Proofs
