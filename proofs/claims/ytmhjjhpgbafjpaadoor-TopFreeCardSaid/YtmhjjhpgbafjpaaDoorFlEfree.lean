/- Floors: whether all lanes hang together. -/
import Derived.Test.YtmhjjhpgbafjpaaDoorFlDfree
set_option linter.unusedVariables false
set_option maxRecDepth 100000
namespace Go.Proofs
open Go Go.Eng
def itr {α : Type} (f : α → α) : Nat → α → α
  | 0, x => x
  | n + 1, x => itr f n (f x)
theorem itr_succ {α : Type} (f : α → α) : ∀ (n : Nat) (x : α), itr f (n + 1) x = f (itr f n x)
  | 0, x => rfl
  | n + 1, x => itr_succ f n (f x)
theorem itr_add {α : Type} (f : α → α) : ∀ (m n : Nat) (x : α), itr f (m + n) x = itr f n (itr f m x)
  | 0, n, x => by rw [Nat.zero_add]; rfl
  | m + 1, n, x => by rw [Nat.add_right_comm]; exact itr_add f m n (f x)
theorem itr_fix {α : Type} {f : α → α} {x : α} (h : f x = x) : ∀ n, itr f n x = x
  | 0 => rfl
  | n + 1 => by show itr f n (f x) = x; rw [h]; exact itr_fix h n
def lanesF (C : ByteArray) (n : Nat) : List Int := ((List.range n).filter fun i => decide (kdF C i = 2)).map fun i : Nat => (i : Int)
theorem lanesF_succ (C : ByteArray) (n : Nat) : lanesF C (n + 1) = lanesF C n ++ (if kdF C n = 2 then [(n : Int)] else []) := by
  unfold lanesF
  rw [List.range_succ, List.filter_append, List.map_append]
  congr 1
  by_cases h : kdF C n = 2 <;> simp [h]
theorem lanesF_mem {C : ByteArray} {n : Nat} {x : Int} (h : x ∈ lanesF C n) : 0 ≤ x ∧ x < (n : Int) := by
  unfold lanesF at h
  obtain ⟨i, hi, rfl⟩ := List.mem_map.1 h
  have := List.mem_range.1 (List.mem_filter.1 hi).1
  omega
theorem lanesF_nodup (C : ByteArray) (n : Nat) : (lanesF C n).Nodup := by
  unfold lanesF
  refine List.Pairwise.map (R := fun a b => a ≠ b) _ (fun a b h e => h (by omega)) ?_
  exact (List.nodup_range (n := n)).filter _
theorem lanesF_len (C : ByteArray) (n : Nat) : (lanesF C n).length ≤ n := by
  unfold lanesF
  rw [List.length_map]
  exact Nat.le_trans (List.length_filter_le _ _) (by simp)
abbrev JS := List Int × List Int
def jb (s : JS) (b : Int) : JS := if b ∈ s.1 then (s.1.erase b, s.2 ++ [b]) else s
def jstep (f : Fl) (s : JS) : JS := match s.2.getLast? with
  | none => s
  | some cell => (besideF f cell).foldl jb (s.1, s.2.dropLast)
def meas (s : JS) : Nat := 2 * s.1.length + s.2.length
theorem jb_meas (s : JS) (b : Int) : meas (jb s b) ≤ meas s := by
  unfold jb
  split
  · rename_i h
    have := List.length_erase_of_mem h
    have := List.length_pos_of_mem h
    simp only [meas, List.length_append, List.length_singleton]
    omega
  · exact Nat.le_refl _
theorem jbs_meas : ∀ (l : List Int) (s : JS), meas (l.foldl jb s) ≤ meas s
  | [], s => Nat.le_refl _
  | b :: l, s => Nat.le_trans (jbs_meas l (jb s b)) (jb_meas s b)
theorem jstep_meas (f : Fl) {s : JS} (h : s.2 ≠ []) : meas (jstep f s) < meas s := by
  unfold jstep
  rw [List.getLast?_eq_some_getLast h]
  dsimp only
  refine Nat.lt_of_le_of_lt (jbs_meas _ _) ?_
  have : 0 < s.2.length := List.length_pos_iff.2 h
  simp only [meas, List.length_dropLast]
  omega
theorem jstep_fix (f : Fl) {s : JS} (h : s.2 = []) : jstep f s = s := by
  unfold jstep; rw [h]; rfl
def jInit (C : ByteArray) (x : Int) : JS := ((lanesF C C.size).erase x, [x])
def joinedV (f : Fl) : Bool := match (lanesF f.C f.C.size).getLast? with
  | none => false
  | some x => decide ((itr (jstep f) (2 * f.C.size + 2) (jInit f.C x)).1 = [])
/-- The map of the lanes that are left. -/
def lf (L : List Int) : Int → Option Value := fun a => if a ∈ L then some (.bool true) else none
theorem lf_add {L : List Int} {x : Int} : updI (lf L) x (some (.bool true)) = lf (L ++ [x]) := by
  funext a
  unfold lf
  by_cases h : a = x
  · subst h; rw [updI_same, if_pos (by simp)]
  · rw [updI_other _ h]
    by_cases h2 : a ∈ L
    · rw [if_pos h2, if_pos (by simp [h2])]
    · rw [if_neg h2, if_neg (by simp [h2, h])]
theorem lf_del {L : List Int} (hn : L.Nodup) {x : Int} : updI (lf L) x none = lf (L.erase x) := by
  funext a
  unfold lf
  by_cases h : a = x
  · subst h; rw [updI_same, if_neg (fun h => (List.Nodup.mem_erase_iff hn).1 h |>.1 rfl)]
  · rw [updI_other _ h]
    by_cases h2 : a ∈ L
    · rw [if_pos h2, if_pos ((List.Nodup.mem_erase_iff hn).2 ⟨h, h2⟩)]
    · rw [if_neg h2, if_neg fun h3 => h2 ((List.Nodup.mem_erase_iff hn).1 h3).2]
theorem uMb : Tryd.prog.underlying 118 = some (.map 3 4) := by kernel_rfl
theorem Zbo (w : World) : (zeroValue 4).run Tryd.prog w = .ok (.bool false) w := by kernel_rfl
/-- All numbers of the state are cells of the floor. -/
def JOk (n : Nat) (s : JS) : Prop := s.1.Nodup ∧ (∀ x ∈ s.1, 0 ≤ x ∧ x < (n : Int)) ∧ (∀ x ∈ s.2, 0 ≤ x ∧ x < (n : Int)) ∧ meas s ≤ 2 * n + 2
theorem jb_ok {n : Nat} {s : JS} (h : JOk n s) (b : Int) : JOk n (jb s b) := by
  obtain ⟨h1, h2, h3, h4⟩ := h
  have hm := jb_meas s b
  unfold jb at hm ⊢
  split
  · rename_i hb
    rw [if_pos hb] at hm
    refine ⟨h1.erase _, fun x hx => h2 x (List.mem_of_mem_erase hx), fun x hx => ?_, by omega⟩
    rcases List.mem_append.1 hx with h | h
    · exact h3 x h
    · rw [List.mem_singleton] at h; subst h; exact h2 _ hb
  · exact ⟨h1, h2, h3, h4⟩
section
variable {w0 w : World} {f : Fl} {m : Nat}
/-- The world of the walk: the floor, the map, the row of those that come next. -/
structure JW (w0 w : World) (f : Fl) (m : Nat) (s : JS) (A : Option Addr) (c : Nat) : Prop where
  fl : Blk w w0.heap.size 25 (fcell f)
  mp : ∃ n, n ≤ 100000 ∧ IM w Tryd.prog 3 m n s.1.length (lf s.1)
  row : Own w 3 1 (fun k => w0.heap.size + 1 < k) A s.2.length c (ints s.2)
  em : m = w0.heap.size + 1
  bel : Bel w0.heap.size w0 w
theorem JW.fr0 {s : JS} {A : Option Addr} {c : Nat} (h : JW w0 w f m s A c) {w' : World} (g : Fr none1 w w') : JW w0 w' f m s A c := by
  obtain ⟨n, hn, i⟩ := h.mp
  exact ⟨h.fl.fr g fun h => h, ⟨n, hn, i.fr g fun h => h⟩, h.row.fr g fun _ _ _ h => h, h.em, h.bel.trans' g.bel0⟩
theorem join_b {s : JS} {A : Option Addr} {c : Nat} (h : JW w0 w f m s A c) (hs : JOk f.C.size s) (hC : f.C.size ≤ 256) (hl : s.2.length ≤ 1000) {b : Int} (hb : 0 ≤ b ∧ b < (f.C.size : Int)) :
    ∃ v, (Instr.lookup 118 (.map (some m)) (.int .i64 b) false).run Tryd.prog w = .ok (.bool v) w ∧ (if v then ∃ w1, (Builtin.delete_ #[118, 3] 0 ⟨[.map (some m), .int .i64 b]⟩).run Tryd.prog w = .ok (.tuple ⟨[]⟩) w1 ∧ ∃ A' c' w2, (Builtin.append_ #[79, 79] 79 ⟨[.slice A s.2.length c, .slice (some ⟨w1.heap.size, 0, none⟩) 1 1]⟩).run Tryd.prog (w1.alloc (.cells ⟨[.int .i64 b]⟩ 3)) = .ok (.slice A' (jb s b).2.length c') w2 ∧ JW w0 w2 f m (jb s b) A' c' ∧ Fr (fun k => k = m ∨ ownAt A k) w w2 ∧ ∀ k, ownAt A' k → ownAt A k ∨ w.heap.size ≤ k
      else jb s b = s) := by
  obtain ⟨n, hn, i⟩ := h.mp
  have hr : IntKind.i64.min ≤ b ∧ b ≤ IntKind.i64.max := by simp [IntKind.min, IntKind.max, IntKind.bits, IntKind.signed]; omega
  have lk := i.lookup uInt uMb (Zbo w) hr
  by_cases hm : b ∈ s.1
  · have e1 : lf s.1 b = some (.bool true) := if_pos hm
    rw [e1] at lk
    refine ⟨true, lk, ?_⟩
    rw [if_pos rfl]
    obtain ⟨w1, r1, i1, f1⟩ := i.delete uInt uMb hr 0
    have ejb : jb s b = (s.1.erase b, s.2 ++ [b]) := if_pos hm
    rw [e1, lf_del hs.1] at i1
    have hml := h.fl.lt
    have hem := h.em
    have fl1 := h.fl.fr f1 (by omega)
    have row1 := h.row.fr f1 fun k _ hk e => by have e : k = m := e; omega
    obtain ⟨A', c', w2, r2, o2', f2⟩ := app_int (row1.ok (ok' := ownAt A) fun a ha => ⟨a, ha, rfl⟩) b (by omega)
    have hs1 := f1.size
    have hb1 := h.bel.size
    have hA : ∀ k, ownAt A k → w0.heap.size + 1 < k := fun k ⟨a, ha, e⟩ => e ▸ (row1.has a ha).1
    have hm1 := i1.lt
    have o2 := o2'.mono (ok' := fun k => w0.heap.size + 1 < k) fun k _ h => h.elim (hA k) fun h => by omega
    refine ⟨w1, r1, A', c', w2, by rw [ejb]; exact r2, ?_⟩
    rw [ejb]
    refine ⟨?_, (f1.mono fun k _ e => .inl e).trans f2 fun k _ h => .inr h, fun k ⟨a, ha, e⟩ => e ▸ (o2'.has a ha).1.imp id fun h => Nat.le_trans hs1 h⟩
    refine ⟨fl1.fr f2 fun hk => by have := hA _ hk; omega, ⟨n, hn, ?_⟩, o2, hem, h.bel.trans' ((f1.bel fun k e => by have e : k = m := e; omega).trans' (f2.bel fun k hk => by have := hA k hk; omega))⟩
    have := i1.fr f2 fun hk => by have := hA _ hk; omega
    have el : (s.1.erase b).length = s.1.length - 1 := List.length_erase_of_mem hm
    show IM w2 Tryd.prog 3 m n (s.1.erase b).length (lf (s.1.erase b))
    rw [el]
    simpa using this
  · have e1 : lf s.1 b = none := if_neg hm
    rw [e1] at lk
    refine ⟨false, lk, ?_⟩
    rw [if_neg (by simp)]
    exact if_neg hm
end
end Go.Proofs
