/- The laws of lists of frames. -/
import Derived.Test.YtkchikcbikkgeaaCkE02
set_option linter.unusedVariables false
namespace Go.Proofs
open Go Go.Eng
theorem Ein : ElT Try.prog 32 3 1 8 := elT_of (by kernel_rfl)
/-- Rows of bytes that were handed in. -/
def Arg (W : World) (A : Option Addr) (c : Nat) (xss : List Bs) : Prop := ∃ vs, Rd W (fun k => k < W.heap.size) A vs ∧ Bss W (fun k => k < W.heap.size) vs xss ∧ xss.length ≤ c ∧ c ≤ maxLen
section
variable {W w : World} {A : Option Addr} {c : Nat} {xss : List Bs}
theorem Arg.at (h : Arg W A c xss) (g : Bel W.heap.size W w) {i : Nat} {ys : Bs} (hi : xss[i]? = some ys) : ∃ a B d, A = some a ∧ w.cell? (a.add (Int.toNat (i : Int) * 1)) = some (.slice B ys.length d) ∧ ys.length ≤ d ∧ Rd w (fun k => k < W.heap.size) B (bvs ys) := by
  obtain ⟨vs, h1, h2, _⟩ := h
  obtain ⟨B, d, k1, k3, k2⟩ := h2.2 i ys hi
  obtain ⟨a, rfl, _, hc⟩ := (h1.new g).at k1
  exact ⟨a, B, d, rfl, by rw [Int.toNat_natCast, Nat.mul_one]; exact hc, k3, k2.new g⟩
theorem Arg.rs (h : Arg W A c xss) (g : Bel W.heap.size W w) (n : Nat) : RS w A (xss.take n) := by
  obtain ⟨vs, h1, h2, _⟩ := h
  refine ⟨vs.take n, ((h1.new g).take n).mono fun _ _ _ => trivial, ?_, fun i ys hi => ?_⟩
  · rw [List.length_take, List.length_take, h2.1]
  · rw [List.getElem?_take] at hi
    split at hi
    · rename_i hin
      obtain ⟨B, d, k1, k3, k2⟩ := h2.2 i ys hi
      exact ⟨B, d, by rw [List.getElem?_take, if_pos hin]; exact k1, k3, (k2.new g).mono fun _ _ _ => trivial⟩
    · cases hi
theorem RS.take (h : RS w A xss) (n : Nat) : RS w A (xss.take n) := by
  obtain ⟨vs, h1, h2⟩ := h
  refine ⟨vs.take n, h1.take n, ?_, fun i ys hi => ?_⟩
  · rw [List.length_take, List.length_take, h2.1]
  · rw [List.getElem?_take] at hi
    split at hi
    · rename_i hin
      obtain ⟨B, d, k1, k3⟩ := h2.2 i ys hi
      exact ⟨B, d, by rw [List.getElem?_take, if_pos hin]; exact k1, k3⟩
    · cases hi
theorem RS.drop (h : RS w A xss) (n : Nat) (hc : xss.length ≤ c) : RS w (slAddr A c n 1) (xss.drop n) := by
  obtain ⟨vs, h1, h2⟩ := h
  refine ⟨vs.drop (n * 1), h1.drop (by rw [h2.1]; omega), ?_, fun i ys hi => ?_⟩
  · rw [List.length_drop, List.length_drop, h2.1, Nat.mul_one]
  · rw [List.getElem?_drop] at hi
    obtain ⟨B, d, k1, k3⟩ := h2.2 _ ys hi
    exact ⟨B, d, by rw [List.getElem?_drop, Nat.mul_one]; exact k1, k3⟩
end
theorem frames_succ {xss : List Bs} {n : Nat} {ys : Bs} (h : xss[n]? = some ys) : frames (xss.take (n + 1)) = frames (xss.take n) ++ framed ys := by
  rw [List.take_add_one, h, frames_append]; simp [frames]
theorem frames_mono {xss : List Bs} {n m : Nat} (h : n ≤ m) : ∃ u, frames (xss.take m) = frames (xss.take n) ++ u := by
  refine ⟨frames ((xss.take m).drop n), ?_⟩
  rw [← frames_append]
  congr 1
  have e : xss.take n = (xss.take m).take n := by rw [List.take_take, Nat.min_eq_left h]
  rw [e, List.take_append_drop]
theorem frames_le {xss : List Bs} (h : ∀ y ∈ xss, y.length ≤ 1000) : (frames xss).length ≤ 1004 * xss.length := by
  induction xss with
  | nil => simp [frames]
  | cons y l ih =>
    have h1 := h y (by simp)
    have h2 := ih fun z hz => h z (by simp [hz])
    have e : (frames (y :: l)).length = (framed y).length + (frames l).length := by simp [frames]
    rw [e, framed_length, List.length_cons]; omega
section
variable {W : World} {A : Option Addr} {c : Nat} {xss : List Bs}
/-- What is cut of frames, one behind the other. -/
theorem cut_scan {N n k : Nat} (hN : N ≤ xss.length) (hs : ∀ y ∈ xss.take N, y.length ≤ 1000) (hn : n ≤ N) (hk : (frames (xss.take n)).length ≤ k) (hk2 : k ≤ (frames (xss.take N)).length) (hstop : n = N ∨ k < (frames (xss.take (n + 1))).length) :
    scanB ((frames (xss.take N)).take k) = (xss.take n, (frames (xss.take n)).length) := by
  obtain ⟨u, hu⟩ := frames_mono (xss := xss) hn
  have hsn : ∀ y ∈ xss.take n, y.length ≤ 1000 := fun y hy => hs y (by
    have : xss.take n = (xss.take N).take n := by rw [List.take_take, Nat.min_eq_left hn]
    rw [this] at hy
    exact List.mem_of_mem_take hy)
  have e1 : (frames (xss.take N)).take k = frames (xss.take n) ++ u.take (k - (frames (xss.take n)).length) := by
    rw [hu, List.take_append, List.take_of_length_le hk]
  have hz : sizeB (u.take (k - (frames (xss.take n)).length)) = 0 := by
    rcases hstop with h | h
    · subst h
      have hul : u = [] := by
        have := congrArg List.length hu
        rw [List.length_append] at this
        exact List.eq_nil_of_length_eq_zero (by omega)
      rw [hul, List.take_nil]
      unfold sizeB; rw [if_pos (by decide)]
    · by_cases hnN : n = N
      · subst hnN
        have hul : u = [] := by
          have := congrArg List.length hu
          rw [List.length_append] at this
          exact List.eq_nil_of_length_eq_zero (by omega)
        rw [hul, List.take_nil]
        unfold sizeB; rw [if_pos (by decide)]
      · have hx : xss[n]? = some xss[n] := List.getElem?_eq_getElem (by omega)
        have hfs := frames_succ hx
        have hl := congrArg List.length hfs
        rw [List.length_append] at hl
        obtain ⟨u2, hu2⟩ := frames_mono (xss := xss) (n := n + 1) (m := N) (by omega)
        have e2 : u = framed xss[n] ++ u2 := by
          rw [hfs, List.append_assoc] at hu2
          rw [hu] at hu2
          exact List.append_cancel_left hu2
        have hyl := hs xss[n] (List.mem_of_getElem? (i := n) (by rw [List.getElem?_take, if_pos (by omega)]; exact hx))
        have hfl := framed_length xss[n]
        have hq : k - (frames (xss.take n)).length < (framed xss[n]).length := by omega
        rw [e2, List.take_append_of_le_length (by omega)]
        exact sizeB_pre hyl ⟨(framed xss[n]).drop (k - (frames (xss.take n)).length), by rw [List.take_append_drop]⟩ (by rw [List.length_take]; omega)
  rw [e1, scanB_frames _ _ hsn, scanB_zero hz]
  simp
theorem checkList_ok (h : Arg W A c xss) (cut : Int) (hcut : 0 ≤ cut ∧ cut < 65536) : Ret Try.prog 5 [.slice A xss.length c, .int .u16 cut] W (Done W) := by
  have hcc : xss.length ≤ c ∧ c ≤ maxLen := by obtain ⟨_, _, _, a, b⟩ := h; exact ⟨a, b⟩
  simp only [maxLen] at hcc
  apply S5_calls
  refine (shown_ok W).use ?_
  rintro v w1 ⟨rfl, f1⟩
  refine ⟨_, rfl, ?_⟩
  refine ⟨fun s w' => ∃ n : Nat, s.2.2.1 = (n : Int) ∧ n ≤ xss.length ∧ n ≤ 20 ∧ (∀ y ∈ xss.take n, y.length ≤ 1000) ∧ s.1.2.1 = (frames (xss.take n)).length ∧ Own w' 5 1 (bw W.heap.size w') s.1.1 (frames (xss.take n)).length s.1.2.2 (bvs (frames (xss.take n))) ∧
      s.2.1.2.1 = n ∧ Own w' 3 1 (bw W.heap.size w') s.2.1.1 n s.2.1.2.2 (ints ((List.range n).map fun j => ((frames (xss.take (j + 1))).length : Int))) ∧ Bel W.heap.size W w', fun s _ => xss.length - s.2.2.1.toNat,
    ⟨0, rfl, Nat.zero_le _, by decide, by simp, rfl, Own.nil _ _ _ _, rfl, Own.nil _ _ _ _, f1.bel0⟩, ?_⟩
  rintro J ⟨⟨A1, l1, c1⟩, ⟨A2, l2, c2⟩, i, ⟨⟩⟩ w2 ⟨n, hi, hn, hn20, hs, hl1, o1, hl2, o2, g2⟩
  dsimp only at hi hl1 o1 hl2 o2 ⊢
  subst hi hl1
  have hl2' := hl2.symm
  subst hl2'
  have hfle := frames_le hs
  rw [List.length_take] at hfle
  have k3 : S5_k3 A xss.length c cut true A1 (frames (xss.take n)).length c1 A2 n c2 w2 (Done W) := by
    obtain ⟨k, hk, hk'⟩ : ∃ k : Nat, Int.tmod (IntKind.i64.wrap cut) (IntKind.i64.wrap (((frames (xss.take n)).length : Int) + 1)) = (k : Int) ∧ k ≤ (frames (xss.take n)).length := by
      rw [IntWalk.i64_in cut (by omega), IntWalk.i64_in _ (by omega), Int.tmod_eq_emod_of_nonneg (by omega)]
      have h0 := Int.emod_nonneg cut (b := ((frames (xss.take n)).length : Int) + 1) (by omega)
      have h1 := Int.emod_lt_of_pos cut (b := ((frames (xss.take n)).length : Int) + 1) (by omega)
      exact ⟨(cut % (((frames (xss.take n)).length : Int) + 1)).toNat, by omega, by omega⟩
    unfold S5_k3
    rw [hk, IntWalk.i64_in (((frames (xss.take n)).length : Int) + 1) (by omega)]
    refine ⟨by omega, fun s w' => w' = w2 ∧ ∃ m : Nat, s.1 = (m : Int) ∧ m ≤ n ∧ s.2.1 = ((frames (xss.take m)).length : Int) ∧ (frames (xss.take m)).length ≤ k, fun s _ => n - s.1.toNat, ⟨rfl, 0, rfl, Nat.zero_le _, by simp [frames], by simp [frames]⟩, ?_⟩
    rintro J ⟨m', to, ⟨⟩⟩ w3 ⟨rfl, m, hm, hmn, hto, hmk⟩
    dsimp only at hm hto ⊢
    subst hm hto
    have k7 : (m = n ∨ k < (frames (xss.take (m + 1))).length) → S5_k7 A xss.length c true A1 (frames (xss.take n)).length c1 (k : Int) (m : Int) ((frames (xss.take m)).length : Int) w3 (Done W) := by
      intro hstop
      have hscan := cut_scan hn hs hmn hmk hk' hstop
      have hle1 := o1.le
      unfold S5_k7
      rw [Int.toNat_natCast, Int.toNat_natCast, Nat.sub_zero, Nat.sub_zero, slAddr_zero, slAddr_zero]
      refine ⟨by omega, by omega, ?_⟩
      have htk : ((frames (xss.take n)).take k).length = k := by rw [List.length_take]; omega
      have hsc := scan_ok (c := c1 - 0) (o1.rd.upto k) (by omega) (by omega)
      rw [hscan, htk] at hsc
      refine hsc.use ?_
      rintro v w4 ⟨A4, c4, rfl, o4, f4⟩
      have hml : (xss.take m).length = m := by rw [List.length_take]; omega
      refine ⟨_, _, _, _, rfl, cT rfl (cT (by simp) (cT (by rw [decide_eq_true]; rw [hml]) ⟨by omega, by omega, ?_⟩))⟩
      have hsame := same_ok (c1 := c4) (c2 := c - 0) o4.rs (h.rs (g2.trans' f4.bel0) m) (by rw [hml]; simp only [maxLen]; omega)
      rw [hml] at hsame ⊢
      refine hsame.use ?_
      rintro v w5 ⟨rfl, f5⟩
      exact ⟨_, rfl, by simp, (g2.trans' (f4.trans' f5).bel0).top⟩
    refine cD (fun hlt => ?_) (fun hlt => cF rfl (k7 (.inl (by omega))))
    have hget : ((List.range n).map fun j => ((frames (xss.take (j + 1))).length : Int))[m]? = some ((frames (xss.take (m + 1))).length : Int) := by
      have : m < n := by omega
      simp [this]
    obtain ⟨a, ha, _, cx⟩ := o2.rd.at (ints_get hget)
    refine ⟨a, ha, by omega, by omega, _, by rw [Int.toNat_natCast, Nat.mul_one]; exact cx, cD (fun hle => ?_) (fun hle => k7 (.inr (by omega)))⟩
    refine ⟨a, ha, by omega, by omega, _, by rw [Int.toNat_natCast, Nat.mul_one]; exact cx, ?_⟩
    rw [IntWalk.i64_in ((m : Int) + 1) (by omega)]
    exact ⟨⟨rfl, m + 1, rfl, by omega, rfl, by omega⟩, by dsimp only; omega⟩
  refine cD (fun hlt => cD (fun h20 => cT rfl k3) (fun h20 => ?_)) (fun hlt => k3)
  have hx : xss[n]? = some xss[n] := List.getElem?_eq_getElem (by omega)
  obtain ⟨a, B, d, ha, cx, hd, hr⟩ := h.at g2 hx
  refine ⟨a, ha, by omega, by omega, _, _, _, cx, cD (fun h1000 => k3) (fun h1000 => ?_)⟩
  refine ⟨a, ha, by omega, by omega, _, _, _, cx, ?_⟩
  have hyl : xss[n].length ≤ 1000 := by omega
  refine (frame_ok (c := d) hr (by omega)).use ?_
  rintro v w3 ⟨A3, c3, rfl, o3, f3⟩
  rw [frV_ok hyl] at o3 ⊢
  dsimp only at o3
  refine ⟨_, _, _, _, rfl, cF rfl ?_⟩
  have hfl := framed_length xss[n]
  have g3 := g2.trans' f3.bel0
  have hfs := frames_succ hx
  obtain ⟨A4, c4, w4, r4, o4, f4, g4⟩ := appB (ty := 22) (m := (framed xss[n]).length) (c2 := c3) Eby (ownB o1 f3) g3.size (by rw [bvs_length]; omega) o3.rd (bvs_one _) (by omega) (by simp only [maxLen]; omega)
  have e4 : bvs (frames (xss.take n)) ++ bvs (framed xss[n]) = bvs (frames (xss.take (n + 1))) := by rw [hfs]; simp [bvs]
  have l4 : (frames (xss.take n)).length + (framed xss[n]).length = (frames (xss.take (n + 1))).length := by rw [hfs, List.length_append]
  rw [e4, l4] at o4
  rw [l4] at r4
  have g34 := g3.trans' g4
  have o2' : Own w4 3 1 (bw W.heap.size w4) A2 n c2 (ints ((List.range n).map fun j => ((frames (xss.take (j + 1))).length : Int))) := by
    have o2a := ownB o2 f3
    have o1a := ownB o1 f3
    refine (o2a.fr1 f4 fun b hb ⟨b', hb', e⟩ => ?_).mono fun k hk h => ⟨h.1, hk⟩
    exact o1a.ne_own o2a (by decide) b' hb' ⟨b, hb, e.symm⟩
  obtain ⟨A5, c5, w5, r5, o5, f5, g5⟩ := app1 (ty := 32) Ein o2' g34.size (.int .i64 ((frames (xss.take (n + 1))).length : Int)) rfl (by omega) (by simp only [maxLen]; omega)
  have o4' : Own w5 5 1 (bw W.heap.size w5) A4 (frames (xss.take (n + 1))).length c4 (bvs (frames (xss.take (n + 1)))) := by
    refine (o4.fr1 f5 fun b hb ⟨b', hb', e⟩ => ?_).mono fun k hk h => ⟨h.1, hk⟩
    exact o2'.ne_own o4 (by decide) b' hb' ⟨b, hb, e.symm⟩
  refine ⟨A4, _, c4, w4, r4, A5, _, c5, w5, r5, ?_⟩
  rw [IntWalk.i64_in ((n : Int) + 1) (by omega)]
  refine ⟨⟨n + 1, rfl, by omega, by omega, fun y hy => ?_, rfl, o4', rfl, ?_, g34.trans' g5⟩, by dsimp only; omega⟩
  · rw [List.take_add_one, hx] at hy
    simp only [Option.toList, List.mem_append, List.mem_singleton] at hy
    rcases hy with hy | rfl
    · exact hs y hy
    · exact hyl
  · have e : ints ((List.range (n + 1)).map fun j => ((frames (xss.take (j + 1))).length : Int)) = ints ((List.range n).map fun j => ((frames (xss.take (j + 1))).length : Int)) ++ [.int .i64 ((frames (xss.take (n + 1))).length : Int)] := by
      rw [List.range_succ]; simp [ints]
    rw [e]; exact o5
theorem checkBehind_ok {A0 : Option Addr} {c0 : Nat} {zs : Bs} (hz : Rd W (fun k => k < W.heap.size) A0 (bvs zs)) (hcz : zs.length ≤ c0) (h : Arg W A c xss) : Ret Try.prog 7 [.slice A0 zs.length c0, .slice A xss.length c] W (Done W) := by
  have hcc : xss.length ≤ c ∧ c ≤ maxLen := by obtain ⟨_, _, _, a, b⟩ := h; exact ⟨a, b⟩
  simp only [maxLen] at hcc
  apply S7_calls
  refine (shown_ok W).use ?_
  rintro v w1 ⟨rfl, f1⟩
  refine ⟨_, rfl, ?_⟩
  have hxl : (zs.take 20000).length ≤ 20000 := by rw [List.length_take]; omega
  have hxc : (zs.take 20000).length ≤ c0 := by rw [List.length_take]; omega
  have hx0 := hz.upto 20000
  refine (few_ok hcz).use ?_
  rintro v w1 ⟨rfl, rfl⟩
  refine ⟨_, _, _, rfl, ?_⟩
  generalize zs.take 20000 = x at hxl hxc hx0
  refine (scan_ok (c := c0) (hx0.new f1.bel0) hxc (by omega)).use ?_
  rintro v w2 ⟨A2, c2, rfl, o2, f2⟩
  refine ⟨_, _, _, _, rfl, ?_⟩
  obtain ⟨rest, q1, q2, q3, q4⟩ := scanB_spec x
  have hle := scanB_le x
  refine cF (by rw [decide_eq_false]; omega) (cF (by rw [decide_eq_false]; omega) ?_)
  have f12 := f1.trans' f2
  have hdr : x.drop (scanB x).2 = rest := by
    have e : x.drop (scanB x).2 = (frames (scanB x).1 ++ rest).drop (scanB x).2 := congrArg _ q1
    rw [e, q2, List.drop_append_of_le_length (Nat.le_refl _), List.drop_length, List.nil_append]
  have hrestl : rest.length = x.length - (scanB x).2 := by rw [← hdr, List.length_drop]
  unfold S7_k1
  rw [Int.toNat_natCast]
  refine ⟨by omega, by omega, ?_⟩
  have hrr : Rd w2 (fun k => k < W.heap.size) (slAddr A0 c0 (scanB x).2 1) (bvs rest) := by
    have := Rd.sub (hx0.new f12.bel0) (m := c0) (lo := (scanB x).2) (hi := x.length) (by rw [List.length_take]; omega)
    rwa [List.take_of_length_le (Nat.le_refl _), hdr] at this
  have hsc2 := scan_ok (c := c0 - (scanB x).2) hrr (by omega) (by omega)
  rw [scanB_zero q3, hrestl] at hsc2
  refine hsc2.use ?_
  rintro v w3 ⟨A3, c3, rfl, _, f3⟩
  refine ⟨_, _, _, _, rfl, ?_⟩
  have g3 : Bel W.heap.size W w3 := (f12.trans' f3).bel0
  have o3 : Rows w1.heap.size (from1 w1.heap.size) w3 A2 c2 (scanB x).1 := o2.fr0 f3
  -- what is scanned stays below the rows that the loop writes
  have o3' : Rows W.heap.size (fun k => W.heap.size ≤ k ∧ k < w3.heap.size) w3 A2 c2 (scanB x).1 := by
    obtain ⟨a1, a2, vs, b1, b2, b3, b4, b5⟩ := o3
    have hs := f1.size
    exact ⟨fun k => a1 k ∧ k < w3.heap.size, fun k => a2 k ∧ k < w3.heap.size, vs, b1.mono fun k hk h => ⟨h, hk⟩, b2.mono fun k hk h => ⟨h, hk⟩, fun k x y => b3 k x.1 y.1, fun k x => Nat.le_trans hs (b4 k x.1), fun k x => ⟨Nat.le_trans hs (b5 k x.1), x.2⟩⟩
  refine ⟨fun s w' => ∃ n : Nat, s.2.2.1 = (n : Int) ∧ s.2.1 = (n : Int) ∧ n ≤ xss.length ∧ n ≤ 10 ∧ (∀ y ∈ xss.take n, y.length ≤ 1000) ∧ s.1.2.1 = (frames (xss.take n)).length ∧ Own w' 5 1 (bw w3.heap.size w') s.1.1 (frames (xss.take n)).length s.1.2.2 (bvs (frames (xss.take n))) ∧ Bel w3.heap.size w3 w', fun s _ => xss.length - s.2.2.1.toNat,
    ⟨0, rfl, rfl, Nat.zero_le _, by decide, by simp, rfl, Own.nil _ _ _ _, Fr.refl _ _⟩, ?_⟩
  rintro J ⟨⟨A1, l1, c1⟩, many, i, ⟨⟩⟩ w4 ⟨n, hi, hmany, hn, hn10, hs, hl1, o1, g4⟩
  dsimp only at hi hmany hl1 o1 ⊢
  subst hi hl1 hmany
  have hfle := frames_le hs
  rw [List.length_take] at hfle
  have gW : Bel W.heap.size W w4 := g3.trans' (g4.mono fun k _ h => Nat.le_trans g3.size h)
  have k5 : S7_k5 A xss.length c true A0 x.length c0 A2 (scanB x).1.length c2 ((scanB x).2 : Int) A3 0 c3 0 A1 (frames (xss.take n)).length c1 (n : Int) w4 (Done W) := by
    obtain ⟨A5, c5, w5, r5, o5, f5⟩ := dupl0 (ty := 22) (c2 := c1) Eby (m := (frames (xss.take n)).length) (by rw [bvs_length]; omega) o1.rd (bvs_one _) (by omega) (by simp only [maxLen]; omega)
    have o5' : Own w5 5 1 (bw w4.heap.size w5) A5 (frames (xss.take n)).length c5 (bvs (frames (xss.take n))) := o5.mono fun k hk h => ⟨h, hk⟩
    obtain ⟨A6, c6, w6, r6, o6, f6, g6⟩ := appB (ty := 22) (m := x.length) (c2 := c0) Eby o5' f5.size (by rw [bvs_length]; omega) (hx0.new (gW.trans' f5.bel0)) (bvs_one _) (by omega) (by simp only [maxLen]; omega)
    have e6 : bvs (frames (xss.take n)) ++ bvs x = bvs (frames (xss.take n) ++ x) := by simp [bvs]
    rw [e6, ← List.length_append] at o6
    rw [← List.length_append] at r6
    have hal : (frames (xss.take n) ++ x).length = (frames (xss.take n)).length + x.length := List.length_append
    refine ⟨A5, _, c5, w5, r5, A6, _, c6, w6, r6, ?_⟩
    have hsb := scan_ok (c := c6) o6.rd o6.le (by omega)
    rw [scanB_frames _ _ hs] at hsb
    refine hsb.use ?_
    rintro v w7 ⟨A7, c7, rfl, o7, f7⟩
    dsimp only at o7 ⊢
    have hml : (xss.take n).length = n := by rw [List.length_take]; omega
    have hbl : (xss.take n ++ (scanB x).1).length = n + (scanB x).1.length := by rw [List.length_append, hml]
    have hm1 : (scanB x).1.length ≤ 20000 := by
      have h1 : 4 * (scanB x).1.length ≤ (frames (scanB x).1).length := by
        clear q1 q2 q3 q4 hdr
        generalize (scanB x).1 = l
        induction l with
        | nil => simp
        | cons y l ih =>
          have e : (frames (y :: l)).length = (framed y).length + (frames l).length := by simp [frames]
          rw [e, framed_length, List.length_cons]; omega
      omega
    refine ⟨_, _, _, _, rfl, cF ?_ (cF ?_ ?_)⟩
    · rw [hbl, IntWalk.i64_in _ (by omega)]; simp
    · rw [IntWalk.i64_in _ (by omega)]; simp
    · have g6' : Bel W.heap.size W w6 := gW.trans' (f5.bel0.trans' (g6.mono fun k _ h => Nat.le_trans gW.size h))
      refine cT rfl (cT rfl (cT rfl ?_))
      have fd : Fr none1 w7 w7.drew := Fr.drew w7
      have g8 := g6'.trans' (f7.trans' fd).bel0
      have o8 := o7.fr0 fd
      have om : Rows W.heap.size (fun k => W.heap.size ≤ k ∧ k < w3.heap.size) w7.drew A2 c2 (scanB x).1 := by
        obtain ⟨a1, a2, vs, b1, b2, b3, b4, b5⟩ := o3'
        have hb1 : Own w3 22 1 (fun k => a1 k ∧ k < w3.heap.size) A2 (scanB x).1.length c2 vs := b1.mono fun k hk h => ⟨h, hk⟩
        have h34 := g4.size
        have h45 := f5.size
        have gx : Bel w3.heap.size w3 w7.drew := g4.trans' (f5.bel0.trans' ((g6.mono fun k _ h => Nat.le_trans h34 h).trans' (f7.trans' fd).bel0))
        exact ⟨fun k => a1 k ∧ k < w3.heap.size, a2, vs, hb1.fr gx fun k _ h e => by simp only [from1] at e; omega, b2.fr gx fun k _ h e => by have := (b5 k h).2; simp only [from1] at e; omega, fun k x y => b3 k x.1 y, fun k x => b4 k x.1, b5⟩
      generalize w7.drew = w8 at g8 o8 om ⊢
      have hle7 : n + (scanB x).1.length ≤ c7 := by
        obtain ⟨_, _, _, b1, _⟩ := o7
        have := b1.le
        omega
      rw [Int.toNat_natCast, Nat.sub_zero, slAddr_zero, slAddr_zero, hbl]
      refine ⟨by omega, by omega, by omega, by omega, ?_⟩
      have hs1 := same_ok (c1 := c7 - 0) (c2 := c - 0) (o8.rs.take n) (h.rs g8 n) (by rw [List.length_take, hbl]; simp only [maxLen]; omega)
      have e1 : (xss.take n ++ (scanB x).1).take n = xss.take n := by rw [List.take_append_of_le_length (by omega), List.take_of_length_le (by omega)]
      have e2 : (xss.take n ++ (scanB x).1).drop n = (scanB x).1 := by rw [List.drop_append_of_le_length (by omega), List.drop_of_length_le (by omega), List.nil_append]
      rw [e1, hml] at hs1
      refine hs1.use ?_
      rintro v w9 ⟨rfl, f9⟩
      refine ⟨_, rfl, cT (by simp) ⟨by omega, by omega, ?_⟩⟩
      have hs2 := same_ok (c1 := c7 - n) (c2 := c2) ((o8.rs.fr0 f9).drop (c := c7) n (by omega)) (om.rs.fr0 f9) (by rw [e2]; simp only [maxLen]; omega)
      rw [e2] at hs2
      rw [Nat.add_sub_cancel_left]
      refine hs2.use ?_
      rintro v w10 ⟨rfl, f10⟩
      exact ⟨_, rfl, by simp, (g8.trans' (f9.trans' f10).bel0).top⟩
  refine cD (fun hlt => cD (fun h10 => cT rfl k5) (fun h10 => ?_)) (fun hlt => k5)
  have hx : xss[n]? = some xss[n] := List.getElem?_eq_getElem (by omega)
  obtain ⟨a, B, d, ha, cx, hd, hr⟩ := h.at gW hx
  refine ⟨a, ha, by omega, by omega, _, _, _, cx, cD (fun h1000 => k5) (fun h1000 => ?_)⟩
  refine ⟨a, ha, by omega, by omega, _, _, _, cx, ?_⟩
  have hyl : xss[n].length ≤ 1000 := by omega
  refine (frame_ok (c := d) hr (by omega)).use ?_
  rintro v w5 ⟨A5, c5, rfl, o5, f5⟩
  rw [frV_ok hyl] at o5 ⊢
  dsimp only at o5
  refine ⟨_, _, _, _, rfl, cF rfl ?_⟩
  have hfl := framed_length xss[n]
  have g5 := g4.trans' f5.bel0
  have hfs := frames_succ hx
  obtain ⟨A6, c6, w6, r6, o6, f6, g6⟩ := appB (ty := 22) (m := (framed xss[n]).length) (c2 := c5) Eby (ownB o1 f5) g5.size (by rw [bvs_length]; omega) o5.rd (bvs_one _) (by omega) (by simp only [maxLen]; omega)
  have e4 : bvs (frames (xss.take n)) ++ bvs (framed xss[n]) = bvs (frames (xss.take (n + 1))) := by rw [hfs]; simp [bvs]
  have l4 : (frames (xss.take n)).length + (framed xss[n]).length = (frames (xss.take (n + 1))).length := by rw [hfs, List.length_append]
  rw [e4, l4] at o6
  rw [l4] at r6
  refine ⟨A6, _, c6, w6, r6, ?_⟩
  rw [IntWalk.i64_in ((n : Int) + 1) (by omega)]
  refine ⟨⟨n + 1, rfl, rfl, by omega, by omega, fun y hy => ?_, rfl, o6, g5.trans' g6⟩, by dsimp only; omega⟩
  rw [List.take_add_one, hx] at hy
  simp only [Option.toList, List.mem_append, List.mem_singleton] at hy
  rcases hy with hy | rfl
  · exact hs y hy
  · exact hyl
end
end Go.Proofs
