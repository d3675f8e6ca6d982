/- Rows that were handed in; what is cut of frames. -/
import Derived.Test.YtmhjjhpgbafjpaaCkDtop
set_option linter.unusedVariables false
namespace Go.Proofs
open Go Go.Eng
/-- Rows of bytes that were handed in. -/
def Arg (W : World) (A : Option Addr) (c : Nat) (xss : List Bs) : Prop := ∃ vs, Rd W (fun k => k < W.heap.size) A vs ∧ Bss W (fun k => k < W.heap.size) vs xss ∧ xss.length ≤ c ∧ c ≤ maxLen
section
variable {W w : World} {A : Option Addr} {c : Nat} {xss : List Bs}
theorem Arg.at (h : Arg W A c xss) (g : Bel W.heap.size W w) {i : Nat} {ys : Bs} (hi : xss[i]? = some ys) : ∃ a B d, A = some a ∧ w.cell? (a.add (Int.toNat (i : Int) * 1)) = some (.slice B ys.length d) ∧ ys.length ≤ d ∧ Rd w (fun k => k < W.heap.size) B (bvs ys) := by
  obtain ⟨vs, h1, h2, _⟩ := h
  obtain ⟨B, d, k1, k3, k2⟩ := h2.2 i ys hi
  obtain ⟨a, rfl, _, hc⟩ := (h1.new g).at k1
  exact ⟨a, B, d, rfl, by rw [Int.toNat_natCast, Nat.mul_one]; exact hc, k3, k2.new g⟩
theorem Arg.rs (h : Arg W A c xss) (g : Bel W.heap.size W w) (n : Nat) : RS w A (xss.take n) := by
  obtain ⟨vs, h1, h2, _⟩ := h
  refine ⟨vs.take n, ((h1.new g).take n).mono fun _ _ _ => trivial, ?_, fun i ys hi => ?_⟩
  · rw [List.length_take, List.length_take, h2.1]
  · rw [List.getElem?_take] at hi
    split at hi
    · rename_i hin
      obtain ⟨B, d, k1, k3, k2⟩ := h2.2 i ys hi
      exact ⟨B, d, by rw [List.getElem?_take, if_pos hin]; exact k1, k3, (k2.new g).mono fun _ _ _ => trivial⟩
    · cases hi
theorem RS.take (h : RS w A xss) (n : Nat) : RS w A (xss.take n) := by
  obtain ⟨vs, h1, h2⟩ := h
  refine ⟨vs.take n, h1.take n, ?_, fun i ys hi => ?_⟩
  · rw [List.length_take, List.length_take, h2.1]
  · rw [List.getElem?_take] at hi
    split at hi
    · rename_i hin
      obtain ⟨B, d, k1, k3⟩ := h2.2 i ys hi
      exact ⟨B, d, by rw [List.getElem?_take, if_pos hin]; exact k1, k3⟩
    · cases hi
theorem RS.drop (h : RS w A xss) (n : Nat) (hc : xss.length ≤ c) : RS w (slAddr A c n 1) (xss.drop n) := by
  obtain ⟨vs, h1, h2⟩ := h
  refine ⟨vs.drop (n * 1), h1.drop (by rw [h2.1]; omega), ?_, fun i ys hi => ?_⟩
  · rw [List.length_drop, List.length_drop, h2.1, Nat.mul_one]
  · rw [List.getElem?_drop] at hi
    obtain ⟨B, d, k1, k3⟩ := h2.2 _ ys hi
    exact ⟨B, d, by rw [List.getElem?_drop, Nat.mul_one]; exact k1, k3⟩
end
theorem frames_succ {xss : List Bs} {n : Nat} {ys : Bs} (h : xss[n]? = some ys) : frames (xss.take (n + 1)) = frames (xss.take n) ++ framed ys := by
  rw [List.take_add_one, h, frames_append]; simp [frames]
theorem frames_mono {xss : List Bs} {n m : Nat} (h : n ≤ m) : ∃ u, frames (xss.take m) = frames (xss.take n) ++ u := by
  refine ⟨frames ((xss.take m).drop n), ?_⟩
  rw [← frames_append]
  congr 1
  have e : xss.take n = (xss.take m).take n := by rw [List.take_take, Nat.min_eq_left h]
  rw [e, List.take_append_drop]
theorem frames_le {xss : List Bs} (h : ∀ y ∈ xss, y.length ≤ 1000) : (frames xss).length ≤ 1004 * xss.length := by
  induction xss with
  | nil => simp [frames]
  | cons y l ih =>
    have h1 := h y (by simp)
    have h2 := ih fun z hz => h z (by simp [hz])
    have e : (frames (y :: l)).length = (framed y).length + (frames l).length := by simp [frames]
    rw [e, framed_length, List.length_cons]; omega
section
variable {W : World} {A : Option Addr} {c : Nat} {xss : List Bs}
/-- What is cut of frames, one behind the other. -/
theorem cut_scan {N n k : Nat} (hN : N ≤ xss.length) (hs : ∀ y ∈ xss.take N, y.length ≤ 1000) (hn : n ≤ N) (hk : (frames (xss.take n)).length ≤ k) (hk2 : k ≤ (frames (xss.take N)).length) (hstop : n = N ∨ k < (frames (xss.take (n + 1))).length) :
    scanB ((frames (xss.take N)).take k) = (xss.take n, (frames (xss.take n)).length) := by
  obtain ⟨u, hu⟩ := frames_mono (xss := xss) hn
  have hsn : ∀ y ∈ xss.take n, y.length ≤ 1000 := fun y hy => hs y (by
    have : xss.take n = (xss.take N).take n := by rw [List.take_take, Nat.min_eq_left hn]
    rw [this] at hy
    exact List.mem_of_mem_take hy)
  have e1 : (frames (xss.take N)).take k = frames (xss.take n) ++ u.take (k - (frames (xss.take n)).length) := by
    rw [hu, List.take_append, List.take_of_length_le hk]
  have hz : sizeB (u.take (k - (frames (xss.take n)).length)) = 0 := by
    rcases hstop with h | h
    · subst h
      have hul : u = [] := by
        have := congrArg List.length hu
        rw [List.length_append] at this
        exact List.eq_nil_of_length_eq_zero (by omega)
      rw [hul, List.take_nil]
      unfold sizeB; rw [if_pos (by decide)]
    · by_cases hnN : n = N
      · subst hnN
        have hul : u = [] := by
          have := congrArg List.length hu
          rw [List.length_append] at this
          exact List.eq_nil_of_length_eq_zero (by omega)
        rw [hul, List.take_nil]
        unfold sizeB; rw [if_pos (by decide)]
      · have hx : xss[n]? = some xss[n] := List.getElem?_eq_getElem (by omega)
        have hfs := frames_succ hx
        have hl := congrArg List.length hfs
        rw [List.length_append] at hl
        obtain ⟨u2, hu2⟩ := frames_mono (xss := xss) (n := n + 1) (m := N) (by omega)
        have e2 : u = framed xss[n] ++ u2 := by
          rw [hfs, List.append_assoc] at hu2
          rw [hu] at hu2
          exact List.append_cancel_left hu2
        have hyl := hs xss[n] (List.mem_of_getElem? (i := n) (by rw [List.getElem?_take, if_pos (by omega)]; exact hx))
        have hfl := framed_length xss[n]
        have hq : k - (frames (xss.take n)).length < (framed xss[n]).length := by omega
        rw [e2, List.take_append_of_le_length (by omega)]
        exact sizeB_pre hyl ⟨(framed xss[n]).drop (k - (frames (xss.take n)).length), by rw [List.take_append_drop]⟩ (by rw [List.length_take]; omega)
  rw [e1, scanB_frames _ _ hsn, scanB_zero hz]
  simp
end
end Go.Proofs
