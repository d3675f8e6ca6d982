/- Frames, without the program. -/
import Derived.Test.YtmhjjhpgbafjpaaCkP
set_option linter.unusedVariables false
namespace Go.Eng
open Go
abbrev Bs := List UInt8
/-- A number's two bytes. -/
def wd (n : Nat) : Bs := pk (nb n 16)
theorem wd_length (n : Nat) : (wd n).length = 2 := by unfold wd; rw [pk_length, nb_length]
theorem up8_wd (n : Nat) : up8 (wd n) = nb n 16 := by
  unfold wd; rw [up8_pk, nb_length]; simp
/-- The number of two bytes. -/
def w2 (xs : Bs) : Nat := vl (up8 xs)
theorem w2_wd {n : Nat} (h : n < 2 ^ 16) : w2 (wd n) = n := by unfold w2; rw [up8_wd, vl_nb, Nat.mod_eq_of_lt h]
theorem wd_w2 {xs : Bs} (h : xs.length = 2) : wd (w2 xs) = xs := by
  unfold wd w2
  have e := nb_vl (up8 xs)
  rw [up8_length, h] at e
  rw [show 2 * 8 = 16 from rfl] at *
  have e' : nb (vl (up8 xs)) 16 = up8 xs := e
  rw [e', pk_up8]
theorem w2_lt {xs : Bs} (h : xs.length = 2) : w2 xs < 2 ^ 16 := by
  have := vl_lt (up8 xs)
  rw [up8_length, h] at this
  exact this
def headed (xs : Bs) : Bs := wd xs.length ++ xs
def framed (xs : Bs) : Bs := headed xs ++ wd (csum (headed xs)).toNat
theorem headed_length (xs : Bs) : (headed xs).length = xs.length + 2 := by unfold headed; rw [List.length_append, wd_length]; omega
theorem framed_length (xs : Bs) : (framed xs).length = xs.length + 4 := by unfold framed; rw [List.length_append, headed_length, wd_length]
def sizeB (xs : Bs) : Nat :=
  if xs.length < 4 then 0 else if xs.length < w2 (xs.take 2) + 4 ∨ 1004 < w2 (xs.take 2) + 4 then 0 else
    if w2 ((xs.take (w2 (xs.take 2) + 4)).drop (w2 (xs.take 2) + 2)) = (csum (xs.take (w2 (xs.take 2) + 2))).toNat then w2 (xs.take 2) + 4 else 0
theorem sizeB_frame {ys : Bs} (h : ys.length ≤ 1000) (rest : Bs) : sizeB (framed ys ++ rest) = ys.length + 4 := by
  have hl := framed_length ys
  have hh := headed_length ys
  have e1 : (framed ys ++ rest).take 2 = wd ys.length := by
    unfold framed headed
    rw [List.append_assoc, List.append_assoc, List.take_append_of_le_length (by rw [wd_length]; exact Nat.le_refl _), List.take_of_length_le (by rw [wd_length]; exact Nat.le_refl _)]
  have e2 : w2 ((framed ys ++ rest).take 2) = ys.length := by rw [e1, w2_wd (by omega)]
  have e3 : (framed ys ++ rest).take (ys.length + 4) = framed ys := by
    rw [List.take_append_of_le_length (by omega), List.take_of_length_le (by omega)]
  have e4 : (framed ys ++ rest).take (ys.length + 2) = headed ys := by
    unfold framed
    rw [List.append_assoc, List.take_append_of_le_length (by omega), List.take_of_length_le (by omega)]
  have e5 : (framed ys).drop (ys.length + 2) = wd (csum (headed ys)).toNat := by
    unfold framed
    rw [List.drop_append_of_le_length (by omega), List.drop_of_length_le (by omega), List.nil_append]
  unfold sizeB
  rw [e2, e3, e4, e5, w2_wd (csum (headed ys)).isLt, if_neg (by rw [List.length_append]; omega), if_neg (by rw [List.length_append]; omega), if_pos rfl]
def inner (xs : Bs) (n : Nat) : Bs := (xs.take (n - 2)).drop 2
theorem inner_frame {ys rest : Bs} : inner (framed ys ++ rest) (ys.length + 4) = ys := by
  have hh := headed_length ys
  unfold inner framed
  rw [show ys.length + 4 - 2 = ys.length + 2 by omega, List.append_assoc, List.take_append_of_le_length (by omega), List.take_of_length_le (by omega)]
  unfold headed
  rw [List.drop_append_of_le_length (by rw [wd_length]; exact Nat.le_refl _), List.drop_of_length_le (by rw [wd_length]; exact Nat.le_refl _), List.nil_append]
theorem sizeB_some {xs : Bs} (h : sizeB xs ≠ 0) : ∃ ys : Bs, ys.length ≤ 1000 ∧ sizeB xs = ys.length + 4 ∧ xs = framed ys ++ xs.drop (sizeB xs) ∧ inner xs (sizeB xs) = ys ∧ sizeB xs ≤ xs.length := by
  unfold sizeB at h
  by_cases h1 : xs.length < 4
  · rw [if_pos h1] at h; exact absurd rfl h
  rw [if_neg h1] at h
  by_cases h2 : xs.length < w2 (xs.take 2) + 4 ∨ 1004 < w2 (xs.take 2) + 4
  · rw [if_pos h2] at h; exact absurd rfl h
  rw [if_neg h2] at h
  by_cases h3 : w2 ((xs.take (w2 (xs.take 2) + 4)).drop (w2 (xs.take 2) + 2)) = (csum (xs.take (w2 (xs.take 2) + 2))).toNat
  · have hs : sizeB xs = w2 (xs.take 2) + 4 := by unfold sizeB; rw [if_neg h1, if_neg h2, if_pos h3]
    have ht2 : (xs.take 2).length = 2 := by rw [List.length_take]; omega
    have hwd := wd_w2 ht2
    generalize hn : w2 (xs.take 2) = n at *
    have hlen : ((xs.take (n + 2)).drop 2).length = n := by rw [List.length_drop, List.length_take]; omega
    have hhead : headed ((xs.take (n + 2)).drop 2) = xs.take (n + 2) := by
      unfold headed
      rw [hlen, hwd]
      have e : xs.take 2 = (xs.take (n + 2)).take 2 := by rw [List.take_take, Nat.min_eq_left (by omega)]
      rw [e, List.take_append_drop]
    have hl4 : ((xs.take (n + 4)).drop (n + 2)).length = 2 := by rw [List.length_drop, List.length_take]; omega
    have hfr : framed ((xs.take (n + 2)).drop 2) = xs.take (n + 4) := by
      unfold framed
      rw [hhead, ← h3, wd_w2 hl4]
      have e : xs.take (n + 2) = (xs.take (n + 4)).take (n + 2) := by rw [List.take_take, Nat.min_eq_left (by omega)]
      rw [e, List.take_append_drop]
    refine ⟨(xs.take (n + 2)).drop 2, by omega, by rw [hs, hlen], ?_, ?_, by omega⟩
    · rw [hs, hfr, List.take_append_drop]
    · unfold inner; rw [hs, show n + 4 - 2 = n + 2 by omega]
  · rw [if_neg h3] at h; exact absurd rfl h
theorem sizeB_le (xs : Bs) : sizeB xs ≤ xs.length ∧ (sizeB xs = 0 ∨ 4 ≤ sizeB xs) := by
  by_cases h : sizeB xs = 0
  · exact ⟨by omega, .inl h⟩
  · obtain ⟨ys, _, h2, _, _, h5⟩ := sizeB_some h
    exact ⟨h5, .inr (by omega)⟩
/-- A beginning of a frame is none. -/
theorem sizeB_pre {ys t : Bs} (hy : ys.length ≤ 1000) (h : ∃ u, framed ys = t ++ u) (hl : t.length < ys.length + 4) : sizeB t = 0 := by
  obtain ⟨u, hu⟩ := h
  by_cases hz : sizeB t = 0
  · exact hz
  · obtain ⟨zs, h1, h2, h3, _, h5⟩ := sizeB_some hz
    have e1 := sizeB_frame hy []
    rw [List.append_nil] at e1
    have e2 : framed ys = framed zs ++ (t.drop (sizeB t) ++ u) := by rw [hu, ← List.append_assoc, ← h3]
    rw [e2, sizeB_frame h1] at e1
    omega
def openB (xs : Bs) : Option Bs := if sizeB xs = 0 ∨ sizeB xs ≠ xs.length then none else some (inner xs (sizeB xs))
theorem openB_some {xs ys : Bs} : openB xs = some ys ↔ ys.length ≤ 1000 ∧ xs = framed ys := by
  unfold openB
  constructor
  · intro h
    split at h
    · cases h
    · rename_i hc
      have h0 : sizeB xs ≠ 0 := fun e => hc (.inl e)
      obtain ⟨zs, h1, h2, h3, h4, _⟩ := sizeB_some h0
      have hl : sizeB xs = xs.length := by
        by_cases e : sizeB xs = xs.length
        · exact e
        · exact absurd (.inr e) hc
      rw [hl, List.drop_length, List.append_nil] at h3
      rw [h4] at h
      cases h
      exact ⟨h1, h3⟩
  · rintro ⟨h1, rfl⟩
    have e := sizeB_frame h1 []
    rw [List.append_nil] at e
    have e2 := inner_frame (ys := ys) (rest := [])
    rw [List.append_nil] at e2
    rw [if_neg (by rw [e, framed_length]; omega), e, e2]
theorem openB_pre {ys t : Bs} (hy : ys.length ≤ 1000) (h : ∃ u, framed ys = t ++ u) (hl : t.length < ys.length + 4) : openB t = none := by
  unfold openB; rw [if_pos (.inl (sizeB_pre hy h hl))]
def scanB (xs : Bs) : List Bs × Nat :=
  if h : sizeB xs = 0 then ([], 0) else
    have : (xs.drop (sizeB xs)).length < xs.length := by
      have := sizeB_le xs
      rw [List.length_drop]; omega
    (inner xs (sizeB xs) :: (scanB (xs.drop (sizeB xs))).1, sizeB xs + (scanB (xs.drop (sizeB xs))).2)
termination_by xs.length
theorem scanB_zero {xs : Bs} (h : sizeB xs = 0) : scanB xs = ([], 0) := by rw [scanB, dif_pos h]
theorem scanB_step {xs : Bs} (h : sizeB xs ≠ 0) : scanB xs = (inner xs (sizeB xs) :: (scanB (xs.drop (sizeB xs))).1, sizeB xs + (scanB (xs.drop (sizeB xs))).2) := by
  rw [scanB, dif_neg h]
theorem scanB_frame {ys : Bs} (h : ys.length ≤ 1000) (rest : Bs) : scanB (framed ys ++ rest) = (ys :: (scanB rest).1, (framed ys).length + (scanB rest).2) := by
  have e := sizeB_frame h rest
  have e1 : (framed ys ++ rest).drop (ys.length + 4) = rest := by
    rw [List.drop_append_of_le_length (by rw [framed_length]; exact Nat.le_refl _), List.drop_of_length_le (by rw [framed_length]; exact Nat.le_refl _), List.nil_append]
  rw [scanB_step (by omega), e, e1, inner_frame, framed_length]
def frames (l : List Bs) : Bs := l.flatMap framed
theorem frames_append (l m : List Bs) : frames (l ++ m) = frames l ++ frames m := by simp [frames]
theorem scanB_frames : ∀ (l : List Bs) (rest : Bs), (∀ y ∈ l, y.length ≤ 1000) → scanB (frames l ++ rest) = (l ++ (scanB rest).1, (frames l).length + (scanB rest).2)
  | [], rest, _ => by simp [frames]
  | y :: l, rest, h => by
    have e : frames (y :: l) ++ rest = framed y ++ (frames l ++ rest) := by simp [frames]
    have e2 : (frames (y :: l)).length = (framed y).length + (frames l).length := by simp [frames]
    rw [e, scanB_frame (h y (by simp)), scanB_frames l rest (fun z hz => h z (by simp [hz])), e2]
    simp [Nat.add_assoc]
/-- What a scan is: frames, and what begins with none. -/
theorem scanB_spec (xs : Bs) : ∃ rest, xs = frames (scanB xs).1 ++ rest ∧ (scanB xs).2 = (frames (scanB xs).1).length ∧ sizeB rest = 0 ∧ ∀ y ∈ (scanB xs).1, y.length ≤ 1000 := by
  induction hn : xs.length using Nat.strongRecOn generalizing xs with
  | _ n ih =>
    by_cases h : sizeB xs = 0
    · rw [scanB_zero h]
      exact ⟨xs, by simp [frames], rfl, h, by simp⟩
    · obtain ⟨ys, h1, h2, h3, h4, h5⟩ := sizeB_some h
      have hd : (xs.drop (sizeB xs)).length < n := by rw [List.length_drop]; omega
      obtain ⟨rest, k1, k2, k3, k4⟩ := ih _ hd (xs.drop (sizeB xs)) rfl
      rw [scanB_step h]
      refine ⟨rest, ?_, ?_, k3, ?_⟩
      · simp only [h4]
        have e : frames (ys :: (scanB (xs.drop (sizeB xs))).1) = framed ys ++ frames (scanB (xs.drop (sizeB xs))).1 := by simp [frames]
        rw [e, List.append_assoc, ← k1]
        exact h3
      · simp only [h4, k2]
        have e : frames (ys :: (scanB (xs.drop (sizeB xs))).1) = framed ys ++ frames (scanB (xs.drop (sizeB xs))).1 := by simp [frames]
        rw [e, List.length_append, framed_length]; omega
      · intro y hy
        simp only [h4, List.mem_cons] at hy
        rcases hy with rfl | hy
        · exact h1
        · exact k4 y hy
theorem scanB_le (xs : Bs) : (scanB xs).2 ≤ xs.length := by
  obtain ⟨rest, h1, h2, _⟩ := scanB_spec xs
  have := congrArg List.length h1
  rw [List.length_append] at this
  omega
section
variable {w : World} {ok : Nat → Prop} {A : Option Addr} {c : Nat} {xs : Bs}
/-- A part of bytes. -/
theorem Rd.sub (h : Rd w ok A (bvs xs)) {m lo hi : Nat} (hm : (xs.take hi).length ≤ m) : Rd w ok (slAddr A m lo 1) (bvs ((xs.take hi).drop lo)) := by
  have h1 := h.take hi
  have e1 : (bvs xs).take hi = bvs (xs.take hi) := by unfold bvs; rw [List.map_take]
  rw [e1] at h1
  have h2 := h1.drop (m := m) (l := lo) (sz := 1) (by rw [bvs_length]; omega)
  have e2 : (bvs (xs.take hi)).drop (lo * 1) = bvs ((xs.take hi).drop lo) := by unfold bvs; rw [List.map_drop, Nat.mul_one]
  rwa [e2] at h2
theorem Rd.upto (h : Rd w ok A (bvs xs)) (hi : Nat) : Rd w ok A (bvs (xs.take hi)) := by
  have h1 := h.take hi
  have e1 : (bvs xs).take hi = bvs (xs.take hi) := by unfold bvs; rw [List.map_take]
  rwa [e1] at h1
theorem Rd.new {vs : List Value} (h : Rd w ok A vs) {w' : World} (f : Bel w.heap.size w w') : Rd w' ok A vs := h.fr f fun k hk _ h => by simp only [from1] at h; omega
end
/-- `append([]T{}, xs...)`. -/
theorem dupl0 {P : Program} {t ty e : TypeId} {sz bytes : Nat} (T : ElT P t e sz bytes) {w : World} {ok2 : Nat → Prop} {A2 : Option Addr} {m c2 : Nat} {news : List Value}
    (hn : news.length = m * sz) (hr : Rd w ok2 A2 news) (h1 : ∀ u ∈ news, u.oneCell' = true) (hb : m * bytes ≤ 140737488355328) (hm : m ≤ maxLen) :
    ∃ A' c' w', (Builtin.append_ #[t, t] ty ⟨[.slice (some ⟨w.heap.size, 0, none⟩) 0 0, .slice A2 m c2]⟩).run P (w.alloc (.cells ⟨[]⟩ e)) = .ok (.slice A' m c') w' ∧ Own w' e sz (from1 w.heap.size) A' m c' news ∧ Fr none1 w w' := by
  have f1 : Fr none1 w (w.alloc (.cells ⟨[]⟩ e)) := Fr.alloc _ _
  have lit := Own.lit w e sz 0 [] (by simp) (by simp)
  obtain ⟨A', c', w', h2, h3, h4, _⟩ := run_append (ty := ty) (c2 := c2) T lit hn (hr.fr f1 fun _ _ _ h => h) h1 (by rw [Nat.zero_add]; exact hb) (by rw [Nat.zero_add]; exact hm)
  rw [Nat.zero_add] at h2 h3
  rw [List.nil_append] at h3
  have := f1.size
  refine ⟨A', c', w', h2, h3.mono fun k _ h => ?_, f1.trans h4 fun k hk ⟨a, ha, e⟩ => by cases ha; simp only at e; omega⟩
  rcases h with h | h
  · exact Nat.le_of_eq h.symm
  · exact Nat.le_trans this h
end Go.Eng
