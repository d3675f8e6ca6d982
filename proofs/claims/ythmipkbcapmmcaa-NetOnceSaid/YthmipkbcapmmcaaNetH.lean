import Derived.Test.YthmipkbcapmmcaaNetG
set_option linter.unusedVariables false
namespace Go.Proofs
open Go Go.Eng
theorem add_g (g i : Nat) : (⟨g, 0, none⟩ : Addr).add i = ⟨g, i, none⟩ := by
  cases i <;> simp [Addr.add]
/-! ### The document's network -/
def RefIn (B : Nat) (w : World) (r : Nat) (L : List (List UInt8)) : Prop :=
  bw B w r ∧ ∃ (A : Option Addr) (c : Nat), Blk w r 40 [.slice A L.length c] ∧ Own w 9 1 (bw B w) A L.length c (L.map S)
theorem RefIn.frT {B : Nat} {w w' : World} {r : Nat} {L : List (List UInt8)} {F : Nat → Prop} {ts : List Nat} (h : RefIn B w r L) (hf : Fr F w w') (hF : ∀ k, k < w.heap.size → F k → hasTy w ts k) (h1 : 40 ∉ ts) (h2 : 9 ∉ ts) : RefIn B w' r L := by
  obtain ⟨hb, A, c, j1, j2⟩ := h
  exact ⟨bw_mono hf.size hb, A, c, j1.fr hf (fun hk => j1.notTy h1 (hF _ j1.lt hk)), (j2.fr1 hf fun a ha hk => j2.notTy h2 a ha (hF _ (j2.has a ha).2 hk)).mono fun k hk h => ⟨h.1, hk⟩⟩
theorem RefIn.fr0 {B : Nat} {w w' : World} {r : Nat} {L : List (List UInt8)} (h : RefIn B w r L) (hf : Fr none1 w w') : RefIn B w' r L :=
  h.frT (ts := []) hf (fun k _ h => h.elim) (by simp) (by simp)
theorem NetAt.frT {w w' : World} {ok : Nat → Prop} {b : Nat} {L : List (List UInt8)} {F : Nat → Prop} {ts : List Nat} (h : NetAt w ok b L) (hf : Fr F w w') (hF : ∀ k, k < w.heap.size → F k → hasTy w ts k) (h1 : 50 ∉ ts) (h2 : 28 ∉ ts) (h3 : 5 ∉ ts) : NetAt w' ok b L := by
  obtain ⟨hb, D, d, vs, j1, j2, j3⟩ := h
  refine ⟨hb, D, d, vs, j1.fr hf (fun hk => j1.notTy h1 (hF _ j1.lt hk)), j2.fr1 hf fun a ha hk => j2.notTy h2 a ha (hF _ (j2.has a ha).2 hk), fun i xs hi => ?_⟩
  obtain ⟨Ai, ci, h4, h5, h6⟩ := j3 i xs hi
  exact ⟨Ai, ci, h4, h5.fr1 hf fun a ha hk => h5.notTy h3 a ha (hF _ (h5.has a ha).2 hk), h6⟩
/-- What the document's network may write. -/
def refF (B : Nat) (w : World) : Nat → Prop := fun k => bw B w k ∧ hasTy w [40, 9] k
theorem refF_ty {B : Nat} {w : World} : ∀ k, k < w.heap.size → refF B w k → hasTy w [40, 9] k := fun _ _ h => h.2
theorem strs_one (L : List (List UInt8)) : ∀ v ∈ L.map S, v.oneCell' = true := by
  intro v hv
  obtain ⟨x, _, rfl⟩ := List.mem_map.1 hv
  rfl
theorem ref_send {B : Nat} {w : World} {r : Nat} {L : List (List UInt8)} (h : RefIn B w r L) (hB : B ≤ w.heap.size) (xs : List UInt8) : Ret Try.prog 15 [.pointer (some ⟨r, 0, none⟩), .string (str xs)] w fun v w' => Fr (refF B w) w w' ∧ ∃ e : Int, v = .int .i64 e ∧
    ((1024 ≤ L.length ∧ e = 4 ∧ RefIn B w' r L) ∨ (L.length < 1024 ∧ e = 0 ∧ RefIn B w' r (L ++ [xs]))) := by
  have h' := h
  obtain ⟨hb, A, c, j1, j2⟩ := h'
  apply S15_calls
  refine ⟨_, rfl, A, _, c, by rw [j1.cell]; rfl, ?_⟩
  refine cD (fun hc => ?_) (fun hc => ?_)
  · exact ⟨Fr.refl _ _, 4, rfl, .inl ⟨by omega, rfl, h⟩⟩
  · have a2 : Fr none1 w (w.alloc (.cells ⟨[.string (str xs)]⟩ 9)) := Fr.alloc _ _
    have lit := Own.lit w 9 1 1 [.string (str xs)] rfl (by simp [maxLen])
    have j1' := j1.fr a2 (fun h => h)
    have j2' := ownB j2 a2
    obtain ⟨A', c', w3, r3, o3, f4, g4⟩ := appB (ty := 38) (m := 1) (c2 := 1) E38 j2' (Nat.le_trans hB a2.size) rfl lit.rd (fun u hu => by simp at hu; subst hu; rfl) (by omega) (by simp only [maxLen]; omega)
    have k1 := j1'.fr f4 (fun ⟨a, ha, hab⟩ => j2'.ne_blk j1' (by decide) a ha hab)
    refine ⟨_, rfl, A, _, c, by rw [j1.cell]; rfl, A', _, c', w3, r3, _, rfl, k1.has 0 (by simp), k1.free 0, ?_⟩
    have hs : Fr (fun k => k = r) w3 (w3.setCell ⟨r, 0, none⟩ (.slice A' (L.length + 1) c')) := Fr.setCell (F := fun k => k = r) w3 rfl _
    have hlen : (L ++ [xs]).length = L.length + 1 := by simp
    refine ⟨?_, 0, rfl, .inr ⟨by omega, rfl, ?_⟩⟩
    · refine (a2.mono fun _ _ h => h.elim).trans' ((f4.mono ?_).trans' (hs.mono ?_))
      · rintro k hk ⟨a, ha, rfl⟩; exact ⟨(j2.has a ha).1, by obtain ⟨cur, hc⟩ := j2.obj a ha; exact ⟨cur, 9, hc, by decide⟩⟩
      · rintro k hk rfl; exact ⟨hb, j1.hasTy (by decide)⟩
    · have m1 := Nat.le_trans a2.size (Nat.le_trans f4.size hs.size)
      refine ⟨bw_mono m1 hb, A', c', ?_, ?_⟩
      · rw [hlen]; exact k1.set 0 _
      · rw [hlen, List.map_append]
        exact (o3.fr1 hs fun a ha e => o3.ne_blk k1 (by decide) a ha e).mono fun k hk h => ⟨h.1, hk⟩
theorem look_some {L : List (List UInt8)} {i : Int} {xs : List UInt8} (h : look L i = some xs) : ∃ n : Nat, i = n ∧ n < L.length ∧ L[n]? = some xs := by
  unfold look at h
  split at h
  · obtain ⟨n, rfl⟩ := Int.eq_ofNat_of_zero_le ‹_›
    rw [Int.toNat_natCast] at h
    exact ⟨n, rfl, (List.getElem?_eq_some_iff.1 h).1, h⟩
  · cases h
theorem look_none {L : List (List UInt8)} {i : Int} (h : look L i = none) (h0 : 0 ≤ i) : (L.length : Int) ≤ i := by
  obtain ⟨n, rfl⟩ := Int.eq_ofNat_of_zero_le h0
  rw [look_nat, List.getElem?_eq_none_iff] at h
  omega
theorem ref_peek {B : Nat} {w : World} {r : Nat} {L : List (List UInt8)} (h : RefIn B w r L) (i : Int) : Ret Try.prog 17 [.pointer (some ⟨r, 0, none⟩), .int .i64 i] w fun v w' => w' = w ∧ v = .tuple ⟨[.string (str ((look L i).getD [])), .bool (look L i).isSome]⟩ := by
  obtain ⟨hb, A, c, j1, j2⟩ := h
  apply S17_calls
  cases hlk : look L i with
  | none =>
    refine cD (fun h0 => cT rfl ⟨rfl, rfl⟩) (fun h0 => ⟨_, rfl, A, _, c, by rw [j1.cell]; rfl, ?_⟩)
    have := look_none hlk (by omega)
    exact cT (by simpa using this) ⟨rfl, rfl⟩
  | some xs =>
    obtain ⟨n, rfl, hn, hx⟩ := look_some hlk
    refine cD (fun h0 => by omega) (fun h0 => ⟨_, rfl, A, _, c, by rw [j1.cell]; rfl, ?_⟩)
    obtain ⟨a, ha, _, hc⟩ := j2.rd.at (i := n) (v := S xs) (by simp [hx])
    refine cF (by simp; omega) ⟨_, rfl, A, _, c, by rw [j1.cell]; rfl, a, ha, by omega, by omega, _, by rw [Int.toNat_natCast, Nat.mul_one]; exact hc, rfl, rfl⟩
theorem ref_take {B : Nat} {w : World} {r : Nat} {L : List (List UInt8)} (h : RefIn B w r L) (hB : B ≤ w.heap.size) (hL : L.length ≤ 1024) (i : Int) : Ret Try.prog 16 [.pointer (some ⟨r, 0, none⟩), .int .i64 i] w fun v w' => Fr (refF B w) w w' ∧ v = .tuple ⟨[.string (str ((look L i).getD [])), .bool (look L i).isSome]⟩ ∧
    RefIn B w' r (if (look L i).isSome then L.eraseIdx i.toNat else L) := by
  apply S16_calls
  refine (ref_peek h i).use ?_
  rintro v w1 ⟨rfl, rfl⟩
  refine ⟨_, _, rfl, ?_⟩
  cases hlk : look L i with
  | none => exact cF rfl ⟨Fr.refl _ _, rfl, h⟩
  | some xs =>
    refine cT rfl ?_
    obtain ⟨n, rfl, hn, hx⟩ := look_some hlk
    have h' := h
    obtain ⟨hb, A, c, j1, j2⟩ := h'
    have hle := j2.le
    rw [IntWalk.i64_in ((n : Int) + 1) (by omega)]
    have e1 : Int.toNat (n : Int) - 0 = n := by simp
    have e2 : Int.toNat ((n : Int) + 1) = n + 1 := by omega
    rw [e1, e2]
    have a2 : Fr none1 w1 (w1.alloc (.cells ⟨[]⟩ 9)) := Fr.alloc _ _
    have lit : Own (w1.alloc (.cells ⟨[]⟩ 9)) 9 1 (bw w1.heap.size (w1.alloc (.cells ⟨[]⟩ 9))) (some ⟨w1.heap.size, 0, none⟩) 0 0 [] :=
      (Own.lit w1 9 1 0 [] rfl (Nat.zero_le _)).mono fun k hk h => ⟨by omega, hk⟩
    have j1' := j1.fr a2 (fun h => h)
    have j2' := ownB j2 a2
    have g2 := a2.size
    refine ⟨_, rfl, A, _, c, by rw [j1'.cell]; rfl, by omega, by omega, ?_⟩
    rw [slAddr_zero, Nat.sub_zero]
    obtain ⟨A4, c4, w4, r4, o4, f4, g4⟩ := appB (ty := 38) (m := n) (c2 := c) (news := (L.map S).take n) E38 lit g2 (by simp; omega) (j2'.rd.take n) (fun u hu => strs_one L u (List.mem_of_mem_take hu)) (by omega) (by simp only [maxLen]; omega)
    have k1 := j1'.fr f4 (fun ⟨a, ha, hab⟩ => lit.ne_blk j1' (by decide) a ha hab)
    refine ⟨A4, _, c4, w4, r4, _, rfl, A, _, c, by rw [k1.cell]; rfl, by omega, by omega, ?_⟩
    have k2 := j2'.fr1 f4 (fun a ha ⟨a', ha', hab⟩ => by cases ha'; have h1 := (j2.has a ha).2; simp only at hab; omega)
    have rd4 := k2.rd.drop (m := c) (l := n + 1) (sz := 1) (by simp; omega)
    obtain ⟨A5, c5, w5, r5, o5, f5, g6⟩ := appB (ty := 38) (m := L.length - (n + 1)) (c2 := c - (n + 1)) E38 o4 (Nat.le_trans g2 g4.size) (by simp) rd4 (fun u hu => strs_one L u (List.mem_of_mem_drop hu)) (by omega) (by simp only [maxLen]; omega)
    have l1 := k1.fr f5 (fun ⟨a, ha, hab⟩ => o4.ne_blk k1 (by decide) a ha hab)
    refine ⟨A5, _, c5, w5, r5, _, rfl, l1.has 0 (by simp), l1.free 0, ?_⟩
    have hsz : (L.eraseIdx n).length = 0 + n + (L.length - (n + 1)) := by rw [List.length_eraseIdx, if_pos hn]; omega
    have hxs : (L.eraseIdx n).map S = [] ++ (L.map S).take n ++ (L.map S).drop ((n + 1) * 1) := by
      rw [List.eraseIdx_eq_take_drop_succ, List.map_append, List.map_take, List.map_drop, Nat.mul_one, List.nil_append]
    rw [← hsz, ← hxs] at o5
    rw [← hsz]
    have hs : Fr (fun k => k = r) w5 (w5.setCell ⟨r, 0, none⟩ (.slice A5 (L.eraseIdx n).length c5)) := Fr.setCell (F := fun k => k = r) w5 rfl _
    refine ⟨?_, rfl, ?_⟩
    · have f15 : Fr none1 w1 w5 := Fr.top ((Fr.bel0 a2).trans' (g4.trans' g6))
      exact (f15.mono fun _ _ h => h.elim).trans' (hs.mono (by rintro k hk rfl; exact ⟨hb, j1.hasTy (by decide)⟩))
    · simp only [Option.isSome_some, if_true, Int.toNat_natCast]
      have m1 := Nat.le_trans (Nat.le_trans a2.size f4.size) (Nat.le_trans f5.size hs.size)
      exact ⟨bw_mono m1 hb, A5, c5, l1.set 0 _, (o5.fr1 hs fun a ha e => o5.ne_blk l1 (by decide) a ha e).mono fun k hk h => ⟨Nat.le_trans hB h.1, hk⟩⟩
end Go.Proofs
