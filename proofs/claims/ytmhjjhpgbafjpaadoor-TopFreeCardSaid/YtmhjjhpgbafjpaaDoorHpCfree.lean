import Derived.Test.YtmhjjhpgbafjpaaDoorSfree
import Derived.Test.YtmhjjhpgbafjpaaDoorHp5
set_option linter.unusedVariables false
namespace Go.Proofs
open Go Go.Eng
theorem E49 : ElT Tryd.prog 106 111 3 24 := elT_of (by kernel_rfl)
/-- Key, value, the how-many-eth. -/
abbrev En := Int × Int × Int
def ec (e : En) : List Value := [.int .i64 e.1, .int .i64 e.2.1, .int .u64 e.2.2]
theorem ec_len (e : En) : (ec e).length = 3 := rfl
theorem ec_one (e : En) : ∀ v ∈ ec e, v.oneCell' = true := by
  intro v hv
  simp [ec] at hv
  rcases hv with rfl | rfl | rfl <;> rfl
def lt (a b : En) : Prop := a.1 < b.1 ∨ (a.1 = b.1 ∧ a.2.2 < b.2.2)
instance (a b : En) : Decidable (lt a b) := by unfold lt; exact inferInstance
def g (L : List En) (j : Nat) : En := L.getD j (0, 0, 0)
def swp (L : List En) (i k : Nat) : List En := (L.set i (g L k)).set k (g L i)
theorem swp_len (L : List En) (i k : Nat) : (swp L i k).length = L.length := by simp [swp]
theorem g_get {L : List En} {j : Nat} (h : j < L.length) : L[j]? = some (g L j) := by
  unfold g; rw [List.getD_eq_getElem?_getD, List.getElem?_eq_getElem h]; rfl
theorem g_eq (L : List En) (j : Nat) : g L j = L[j]?.getD (0, 0, 0) := by unfold g; rw [List.getD_eq_getElem?_getD]
theorem g_swp {L : List En} {i k : Nat} (hi : i < L.length) (hk : k < L.length) (j : Nat) : g (swp L i k) j = if j = k then g L i else if j = i then g L k else g L j := by
  rw [g_eq (swp L i k)]
  unfold swp
  by_cases h1 : j = k
  · subst h1
    rw [if_pos rfl, List.getElem?_set_self (by simpa using hk)]; rfl
  · rw [if_neg h1, List.getElem?_set_ne (Ne.symm h1)]
    by_cases h2 : j = i
    · subst h2
      rw [if_pos rfl, List.getElem?_set_self hi]; rfl
    · rw [if_neg h2, List.getElem?_set_ne (Ne.symm h2), ← g_eq]
theorem swp_perm {L : List En} {i k : Nat} (hi : i < L.length) (hk : k < L.length) : (swp L i k).Perm L := by
  have h := Array.swap_perm (xs := L.toArray) (i := i) (j := k) (by simpa using hi) (by simpa using hk)
  have h2 := Array.perm_iff_toList_perm.1 h
  have e : (L.toArray.swap i k (by simpa using hi) (by simpa using hk)).toList = swp L i k := by
    rw [Array.swap_def]
    unfold swp g
    simp [hi, hk]
  rw [e] at h2
  simpa using h2
theorem less_ok (a b : En) (w : World) : Ret Tryd.prog 63 [.agg ⟨ec a⟩, .agg ⟨ec b⟩] w fun v w' => v = .bool (decide (lt a b)) ∧ Fr none1 w w' := by
  apply S63_calls
  have b0 := Blk.new w 111 (ec a)
  have f0 : Fr none1 w (w.alloc (.cells ⟨ec a⟩ 111)) := Fr.alloc _ _
  have b1 := Blk.new (w.alloc (.cells ⟨ec a⟩ 111)) 111 (ec b)
  have f1 : Fr none1 (w.alloc (.cells ⟨ec a⟩ 111)) ((w.alloc (.cells ⟨ec a⟩ 111)).alloc (.cells ⟨ec b⟩ 111)) := Fr.alloc _ _
  have b0' := b0.fr f1 (fun h => h)
  refine ⟨a.1, by show World.cell? ((w.alloc (.cells ⟨ec a⟩ 111)).alloc (.cells ⟨ec b⟩ 111)) _ = _; rw [b0'.cell]; rfl, b.1, by show World.cell? ((w.alloc (.cells ⟨ec a⟩ 111)).alloc (.cells ⟨ec b⟩ 111)) _ = _; exact (b1.cell 0).trans rfl, ?_⟩
  have f := f0.trans' f1
  refine cN (fun h => ?_) (fun h => ?_)
  · refine ⟨a.1, by show World.cell? ((w.alloc (.cells ⟨ec a⟩ 111)).alloc (.cells ⟨ec b⟩ 111)) _ = _; rw [b0'.cell]; rfl, b.1, (b1.cell 0).trans rfl, ?_, f⟩
    congr 1; rw [decide_eq_decide]; unfold lt; omega
  · refine ⟨a.2.2, by rw [add_g]; exact (b0'.cell 2).trans rfl, b.2.2, by rw [add_g]; exact (b1.cell 2).trans rfl, ?_, f⟩
    congr 1; rw [decide_eq_decide]; unfold lt; omega
section
variable {w : World} {ok : Nat → Prop} {hp : Nat} {A : Option Addr} {c : Nat} {nx : Int} {L : List En}
/-- A heap's struct and its row. -/
def Raw (w : World) (ok : Nat → Prop) (hp : Nat) (A : Option Addr) (c : Nat) (nx : Int) (L : List En) : Prop :=
  Blk w hp 109 [.slice A L.length c, .int .u64 nx] ∧ Own w 111 3 ok A L.length c (rws ec L)
theorem Raw.fr0 {w' : World} (h : Raw w ok hp A c nx L) (f : Fr none1 w w') : Raw w' ok hp A c nx L := ⟨h.1.fr f (fun h => h), h.2.fr f (fun _ _ _ h => h)⟩
/-- The cells of an entry. -/
theorem Raw.at (h : Raw w ok hp A c nx L) {i : Nat} (hi : i < L.length) : ∃ gb, A = some ⟨gb, 0, none⟩ ∧
    w.cell? ((⟨gb, 0, none⟩ : Addr).add (i * 3)) = some (.int .i64 (g L i).1) ∧ w.cell? (((⟨gb, 0, none⟩ : Addr).add (i * 3)).add 1) = some (.int .i64 (g L i).2.1) ∧ w.cell? (((⟨gb, 0, none⟩ : Addr).add (i * 3)).add 2) = some (.int .u64 (g L i).2.2) := by
  obtain ⟨gb, e, _, hc⟩ := h.2.elem ec_len (g_get hi) (by decide)
  have h0 := hc 0 _ (by decide) rfl
  rw [add_zero'] at h0
  exact ⟨gb, e, h0, hc 1 _ (by decide) rfl, hc 2 _ (by decide) rfl⟩
theorem swap_ok (h : Raw w ok hp A c nx L) {i k : Nat} (hi : i < L.length) (hk : k < L.length) : Ret Tryd.prog 52 [.pointer (some ⟨hp, 0, none⟩), .int .i64 (i : Int), .int .i64 (k : Int)] w fun v w' => v = .tuple ⟨[]⟩ ∧ Raw w' ok hp A c nx (swp L i k) ∧ Fr (ownAt A) w w' := by
  apply S52_calls
  have d : Fr none1 w w.drew := Fr.drew w
  have h1 := h.fr0 d
  obtain ⟨gb, rfl, ki, ki1, ki2⟩ := h1.at hi
  obtain ⟨gb', e, kk, kk1, kk2⟩ := h1.at hk
  cases e
  have hc : w.drew.cell? ⟨hp, 0, none⟩ = some (.slice (some ⟨gb, 0, none⟩) L.length c) := by rw [h1.1.cell]; rfl
  obtain ⟨p1, p2, p3, p4, p5, p6, o1, f1⟩ := h1.2.set3 ec_len hi (a' := g L k) rfl
  obtain ⟨r1, r2, r3, r4, r5, r6, o2, f2⟩ := o1.set3 ec_len (i := k) (by simpa using hk) (a' := g L i) rfl
  refine ⟨_, rfl, _, rfl, _, rfl, _, rfl, _, _, _, hc, _, _, _, hc, _, _, _, hc, _, rfl, by omega, by omega, _, by rw [Int.toNat_natCast]; exact kk, _, by rw [Int.toNat_natCast]; exact kk1, _, by rw [Int.toNat_natCast]; exact kk2, _, _, _, hc, _, rfl, by omega, by omega, _, by rw [Int.toNat_natCast]; exact ki, _, by rw [Int.toNat_natCast]; exact ki1, _, by rw [Int.toNat_natCast]; exact ki2, _, rfl, by omega, by omega, ?_⟩
  rw [Int.toNat_natCast, Int.toNat_natCast]
  refine ⟨p1, p2, p3, p4, p5, p6, _, rfl, by omega, by omega, r1, r2, r3, r4, r5, r6, rfl, ⟨?_, ?_⟩, ?_⟩
  · have hne : ¬ hp = gb := fun e => h1.2.ne_blk h1.1 (by decide) _ rfl e.symm
    rw [swp_len]
    exact (h1.1.fr f1 hne).fr f2 hne
  · rw [swp_len]; exact o2
  · exact (d.mono fun _ _ h => h.elim).trans' ((f1.mono fun k _ e => ⟨_, rfl, e.symm⟩).trans' (f2.mono fun k _ e => ⟨_, rfl, e.symm⟩))
/-- The order of a heap. -/
def HO (L : List En) : Prop := ∀ j, 0 < j → j < L.length → ¬ lt (g L j) (g L ((j - 1) / 2))
def U1 (L : List En) (i : Nat) : Prop := ∀ j, 0 < j → j < L.length → j ≠ i → ¬ lt (g L j) (g L ((j - 1) / 2))
def U2 (L : List En) (i : Nat) : Prop := ∀ j, 0 < j → j < L.length → (j - 1) / 2 = i → 0 < i → ¬ lt (g L j) (g L ((i - 1) / 2))
theorem lt_asymm {a b : En} (h : lt a b) : ¬ lt b a := by unfold lt at *; omega
theorem le_trans' {a b c : En} (h1 : ¬ lt b a) (h2 : ¬ lt c b) : ¬ lt c a := by unfold lt at *; omega
theorem lt_le {a b c : En} (h1 : lt a b) (h2 : ¬ lt c b) : ¬ lt c a := by unfold lt at *; omega
theorem up_step {L : List En} {i : Nat} (hi : i < L.length) (h0 : 0 < i) (u1 : U1 L i) (u2 : U2 L i) (hl : lt (g L i) (g L ((i - 1) / 2))) : U1 (swp L i ((i - 1) / 2)) ((i - 1) / 2) ∧ U2 (swp L i ((i - 1) / 2)) ((i - 1) / 2) := by
  have hp : (i - 1) / 2 < L.length := by omega
  have hne : i ≠ (i - 1) / 2 := by omega
  generalize hpp : (i - 1) / 2 = p at *
  refine ⟨fun j j0 jl jp => ?_, fun j j0 jl jp p0 => ?_⟩
  · rw [swp_len] at jl
    rw [g_swp hi hp, g_swp hi hp, if_neg jp]
    by_cases e : j = i
    · subst e
      rw [if_pos rfl, hpp, if_pos rfl]
      exact lt_asymm hl
    · rw [if_neg e]
      by_cases e2 : (j - 1) / 2 = p
      · rw [if_pos e2]
        have := u1 j j0 jl e
        rw [e2] at this
        exact lt_le hl this
      · rw [if_neg e2]
        by_cases e3 : (j - 1) / 2 = i
        · rw [if_pos e3]
          have := u2 j j0 jl e3 h0
          rwa [hpp] at this
        · rw [if_neg e3]
          exact u1 j j0 jl e
  · rw [swp_len] at jl
    have hpar : ¬ lt (g L p) (g L ((p - 1) / 2)) := u1 p p0 hp (Ne.symm hne)
    rw [g_swp hi hp, g_swp hi hp, if_neg (show ¬ (p - 1) / 2 = p by omega), if_neg (show ¬ (p - 1) / 2 = i by omega), if_neg (show ¬ j = p by omega)]
    by_cases e : j = i
    · rw [if_pos e]; exact hpar
    · rw [if_neg e]
      have := u1 j j0 jl e
      rw [jp] at this
      exact le_trans' hpar this
theorem up_ok (h : Raw w ok hp A c nx L) {i : Nat} (hi : i < L.length) (hlen : L.length ≤ 100000) (u1 : U1 L i) (u2 : U2 L i) : Ret Tryd.prog 50 [.pointer (some ⟨hp, 0, none⟩), .int .i64 (i : Int)] w fun v w' => v = .tuple ⟨[]⟩ ∧ ∃ L', L'.Perm L ∧ HO L' ∧ Raw w' ok hp A c nx L' ∧ Fr (ownAt A) w w' := by
  apply S50_calls
  refine ⟨fun s w' => ∃ (j : Nat) (L' : List En), s.1 = (j : Int) ∧ j < L'.length ∧ L'.Perm L ∧ U1 L' j ∧ U2 L' j ∧ Raw w' ok hp A c nx L' ∧ Fr (ownAt A) w w', fun s _ => s.1.toNat, ⟨i, L, rfl, hi, List.Perm.refl _, u1, u2, h, Fr.refl _ _⟩, ?_⟩
  rintro J ⟨j', ⟨⟩⟩ w1 ⟨j, L1, hj, hjl, hperm, v1, v2, r1, f1⟩
  dsimp only at hj ⊢
  subst hj
  have hll := hperm.length_eq
  have d : Fr none1 w1 w1.drew := Fr.drew w1
  have r2 := r1.fr0 d
  have f2 : Fr (ownAt A) w w1.drew := f1.trans' (d.mono fun _ _ h => h.elim)
  have done : (∀ k, 0 < k → k < L1.length → k = j → ¬ lt (g L1 k) (g L1 ((k - 1) / 2))) → HO L1 := fun hk k k0 kl => by
    by_cases e : k = j
    · exact hk k k0 kl e
    · exact v1 k k0 kl e
  refine cD (fun h0 => ?_) (fun h0 => ?_)
  · have hp0 : (j - 1) / 2 < L1.length := by omega
    have ew : IntKind.i64.wrap (Int.tdiv (IntKind.i64.wrap ((j : Int) - 1)) 2) = (((j - 1) / 2 : Nat) : Int) := by
      rw [IntWalk.i64_in ((j : Int) - 1) (by omega)]
      have : Int.tdiv ((j : Int) - 1) 2 = (((j - 1) / 2 : Nat) : Int) := by
        rw [Int.tdiv_eq_ediv_of_nonneg (by omega)]; omega
      rw [this, IntWalk.i64_in _ (by omega)]
    obtain ⟨gb, rfl, k0, k1, k2⟩ := r2.at hjl
    obtain ⟨gb', e, m0, m1, m2⟩ := r2.at hp0
    cases e
    have hc : w1.drew.cell? ⟨hp, 0, none⟩ = some (.slice (some ⟨gb, 0, none⟩) L1.length c) := by rw [r2.1.cell]; rfl
    rw [ew]
    refine ⟨_, rfl, _, rfl, by decide, _, _, _, hc, _, rfl, by omega, by omega, _, by rw [Int.toNat_natCast]; exact k0, _, by rw [Int.toNat_natCast]; exact k1, _, by rw [Int.toNat_natCast]; exact k2, _, _, _, hc, _, rfl, by omega, by omega, _, by rw [Int.toNat_natCast]; exact m0, _, by rw [Int.toNat_natCast]; exact m1, _, by rw [Int.toNat_natCast]; exact m2, ?_⟩
    refine (less_ok (g L1 j) (g L1 ((j - 1) / 2)) _).use ?_
    rintro v w3 ⟨rfl, f3⟩
    have r3 := r2.fr0 f3
    have f3' : Fr (ownAt (some ⟨gb, 0, none⟩)) w w3 := f2.trans' (f3.mono fun _ _ h => h.elim)
    refine ⟨_, rfl, ?_⟩
    refine cD (fun hl => ?_) (fun hl => ?_)
    · refine ⟨by decide, ?_⟩
      rw [ew]
      refine (swap_ok r3 hjl hp0).use ?_
      rintro v w4 ⟨rfl, r4, f4⟩
      obtain ⟨a1, a2⟩ := up_step hjl (by omega) v1 v2 hl
      refine ⟨rfl, by decide, ⟨(j - 1) / 2, _, rfl, by rw [swp_len]; exact hp0, (swp_perm hjl hp0).trans hperm, a1, a2, r4, f3'.trans' f4⟩, ?_⟩
      dsimp only; omega
    · exact ⟨rfl, L1, hperm, done (fun k _ _ e => by subst e; exact hl), r3, f3'⟩
  · refine cF rfl ⟨rfl, L1, hperm, done (fun k k0 _ e => by omega), r2, f2⟩
def D1 (L : List En) (i : Nat) : Prop := ∀ j, 0 < j → j < L.length → (j - 1) / 2 ≠ i → ¬ lt (g L j) (g L ((j - 1) / 2))
def Fin2 (L : List En) (i m : Nat) (upto : Nat) : Prop :=
  (m = i ∨ ((m = 2 * i + 1 ∨ m = 2 * i + 2) ∧ lt (g L m) (g L i))) ∧ m < L.length ∧ (∀ k, k < upto → 2 * i + 1 + k < L.length → ¬ lt (g L (2 * i + 1 + k)) (g L m))
theorem down_step {L : List En} {i m : Nat} (hi : i < L.length) (d1 : D1 L i) (u2 : U2 L i) (hf : Fin2 L i m 2) (hne : m ≠ i) : D1 (swp L i m) m ∧ U2 (swp L i m) m := by
  obtain ⟨h1, hm, h3⟩ := hf
  have hlt : lt (g L m) (g L i) := by rcases h1 with h | ⟨_, h⟩; exact absurd h hne; exact h
  have hpm : (m - 1) / 2 = i ∧ 0 < m := by rcases h1 with h | ⟨h | h, _⟩ <;> omega
  refine ⟨fun j j0 jl jp => ?_, fun j j0 jl jp m0 => ?_⟩
  · rw [swp_len] at jl
    rw [g_swp hi hm, g_swp hi hm, if_neg jp]
    by_cases e : (j - 1) / 2 = i
    · rw [if_pos e]
      by_cases e2 : j = m
      · rw [if_pos e2]; exact lt_asymm hlt
      · rw [if_neg e2, if_neg (show ¬ j = i by omega)]
        have := h3 (j - (2 * i + 1)) (by omega) (by omega)
        rwa [show 2 * i + 1 + (j - (2 * i + 1)) = j by omega] at this
    · rw [if_neg e, if_neg (show ¬ j = m by intro h; subst h; exact e hpm.1)]
      by_cases e2 : j = i
      · subst e2
        rw [if_pos rfl]
        exact u2 m hpm.2 hm hpm.1 j0
      · rw [if_neg e2]; exact d1 j j0 jl e
  · rw [swp_len] at jl
    rw [g_swp hi hm, g_swp hi hm, hpm.1, if_neg (show ¬ i = m from fun h => hne h.symm), if_pos rfl, if_neg (show ¬ j = m by omega), if_neg (show ¬ j = i by omega)]
    have := d1 j j0 jl (by omega)
    rwa [jp] at this
theorem down_ok (h : Raw w ok hp A c nx L) {i : Nat} (hi : i < L.length ∨ L = []) (hlen : L.length ≤ 100000) (hil : i ≤ 100000) (d1 : D1 L i) (u2 : U2 L i) : Ret Tryd.prog 53 [.pointer (some ⟨hp, 0, none⟩), .int .i64 (i : Int)] w fun v w' => v = .tuple ⟨[]⟩ ∧ ∃ L', L'.Perm L ∧ HO L' ∧ Raw w' ok hp A c nx L' ∧ Fr (ownAt A) w w' := by
  apply S53_calls
  refine ⟨fun s w' => ∃ (j : Nat) (L' : List En), s.1 = (j : Int) ∧ (j < L'.length ∨ L' = []) ∧ j ≤ 100000 ∧ L'.Perm L ∧ D1 L' j ∧ U2 L' j ∧ Raw w' ok hp A c nx L' ∧ Fr (ownAt A) w w', fun s _ => 200000 - s.1.toNat, ⟨i, L, rfl, hi, hil, List.Perm.refl _, d1, u2, h, Fr.refl _ _⟩, ?_⟩
  rintro J ⟨j', ⟨⟩⟩ w1 ⟨j, L1, hj, hjl, hj1, hperm, v1, v2, r1, f1⟩
  dsimp only at hj ⊢
  subst hj
  have hll := hperm.length_eq
  refine ⟨fun s w' => ∃ (m q : Nat), s.1 = (m : Int) ∧ s.2.1 = (q : Int) ∧ q ≤ 2 ∧ (Fin2 L1 j m q ∨ (L1 = [] ∧ m = j)) ∧ Raw w' ok hp A c nx L1 ∧ Fr (ownAt A) w w', fun s _ => 2 - s.2.1.toNat, ⟨j, 0, rfl, rfl, by omega, ?_, r1, f1⟩, ?_⟩
  · rcases hjl with h | h
    · exact .inl ⟨.inl rfl, h, fun k hk _ => by omega⟩
    · exact .inr ⟨h, rfl⟩
  rintro J ⟨m', q', ⟨⟩⟩ w2 ⟨m, q, hm, hq, hq2, hfin, r2, f2⟩
  dsimp only at hm hq ⊢
  subst hm hq
  rw [IntWalk.i64_in (2 * (j : Int)) (by omega), IntWalk.i64_in (2 * (j : Int) + 1) (by omega), IntWalk.i64_in (2 * (j : Int) + 2) (by omega)]
  refine cD (fun hlt => ?_) (fun hlt => ?_)
  · have d : Fr none1 w2 w2.drew := Fr.drew w2
    have r3 := r2.fr0 d
    have f3 : Fr (ownAt A) w w2.drew := f2.trans' (d.mono fun _ _ h => h.elim)
    have hc : w2.drew.cell? ⟨hp, 0, none⟩ = some (.slice A L1.length c) := by rw [r3.1.cell]; rfl
    -- both elements of the array in one
    have core : ∀ k : Nat, k = 2 * j + 1 + q →
        ∃ (t23 : Addr), some (⟨hp, 0, none⟩ : Addr) = some t23 ∧ ∃ (t25_a : Option Addr) (t25_l : Nat) (t25_c : Nat), w2.drew.cell? t23 = some (.slice t25_a t25_l t25_c) ∧
        cond (decide ((k : Int) < ((t25_l : Nat) : Int))) (
          ∃ (t30 : Addr), some (⟨hp, 0, none⟩ : Addr) = some t30 ∧ ∃ (t37 : Addr), some (⟨hp, 0, none⟩ : Addr) = some t37 ∧ ∃ (t32_a : Option Addr) (t32_l : Nat) (t32_c : Nat),
          w2.drew.cell? t30 = some (.slice t32_a t32_l t32_c) ∧ ∃ (t34 : Addr), t32_a = some t34 ∧ 0 ≤ (k : Int) ∧ (k : Int) < ((t32_l : Nat) : Int) ∧
          ∃ (t35_0 : Int), w2.drew.cell? (t34.add (Int.toNat k * 3)) = some (.int .i64 t35_0) ∧ ∃ (t35_1 : Int), w2.drew.cell? ((t34.add (Int.toNat k * 3)).add 1) = some (.int .i64 t35_1) ∧
          ∃ (t35_2 : Int), w2.drew.cell? ((t34.add (Int.toNat k * 3)).add 2) = some (.int .u64 t35_2) ∧ ∃ (t39_a : Option Addr) (t39_l : Nat) (t39_c : Nat),
          w2.drew.cell? t37 = some (.slice t39_a t39_l t39_c) ∧ ∃ (t41 : Addr), t39_a = some t41 ∧ 0 ≤ (m : Int) ∧ (m : Int) < ((t39_l : Nat) : Int) ∧
          ∃ (t42_0 : Int), w2.drew.cell? (t41.add (Int.toNat m * 3)) = some (.int .i64 t42_0) ∧ ∃ (t42_1 : Int), w2.drew.cell? ((t41.add (Int.toNat m * 3)).add 1) = some (.int .i64 t42_1) ∧
          ∃ (t42_2 : Int), w2.drew.cell? ((t41.add (Int.toNat m * 3)).add 2) = some (.int .u64 t42_2) ∧
          Calls Tryd.prog 63 ⟨[(.agg ⟨[(.int .i64 t35_0), (.int .i64 t35_1), (.int .u64 t35_2)]⟩), (.agg ⟨[(.int .i64 t42_0), (.int .i64 t42_1), (.int .u64 t42_2)]⟩)]⟩ w2.drew fun e w_ =>
            ∃ (t43 : Bool), e = .returned (.bool t43) ∧
            S53_k3 (some ⟨hp, 0, none⟩) j (some ⟨hp, 0, none⟩) m k (2 * (j : Int) + 1) (2 * (j : Int) + 2) q t43 w_ (fun v w' => v = .tuple ⟨[]⟩ ∧ ∃ L', L'.Perm L ∧ HO L' ∧ Raw w' ok hp A c nx L' ∧ Fr (ownAt A) w w')
              (fun s' w'' => (∃ (j : Nat) (L' : List En), s'.1 = (j : Int) ∧ (j < L'.length ∨ L' = []) ∧ j ≤ 100000 ∧ L'.Perm L ∧ D1 L' j ∧ U2 L' j ∧ Raw w'' ok hp A c nx L' ∧ Fr (ownAt A) w w'') ∧ 200000 - s'.1.toNat < 200000 - (j : Int).toNat)
              (fun s' w'' => (∃ (m q : Nat), s'.1 = (m : Int) ∧ s'.2.1 = (q : Int) ∧ q ≤ 2 ∧ (Fin2 L1 j m q ∨ (L1 = [] ∧ m = j)) ∧ Raw w'' ok hp A c nx L1 ∧ Fr (ownAt A) w w'') ∧ 2 - s'.2.1.toNat < 2 - (q : Int).toNat)
        ) (
          S53_k3 (some ⟨hp, 0, none⟩) j (some ⟨hp, 0, none⟩) m k (2 * (j : Int) + 1) (2 * (j : Int) + 2) q false w2.drew (fun v w' => v = .tuple ⟨[]⟩ ∧ ∃ L', L'.Perm L ∧ HO L' ∧ Raw w' ok hp A c nx L' ∧ Fr (ownAt A) w w')
              (fun s' w'' => (∃ (j : Nat) (L' : List En), s'.1 = (j : Int) ∧ (j < L'.length ∨ L' = []) ∧ j ≤ 100000 ∧ L'.Perm L ∧ D1 L' j ∧ U2 L' j ∧ Raw w'' ok hp A c nx L' ∧ Fr (ownAt A) w w'') ∧ 200000 - s'.1.toNat < 200000 - (j : Int).toNat)
              (fun s' w'' => (∃ (m q : Nat), s'.1 = (m : Int) ∧ s'.2.1 = (q : Int) ∧ q ≤ 2 ∧ (Fin2 L1 j m q ∨ (L1 = [] ∧ m = j)) ∧ Raw w'' ok hp A c nx L1 ∧ Fr (ownAt A) w w'') ∧ 2 - s'.2.1.toNat < 2 - (q : Int).toNat)
        ) := by
      intro k hk
      refine ⟨_, rfl, _, _, _, hc, ?_⟩
      refine cD (fun hkl => ?_) (fun hkl => ?_)
      · have hkl' : k < L1.length := by omega
        have hf : Fin2 L1 j m q := by
          rcases hfin with h | ⟨h, _⟩
          · exact h
          · subst h; simp at hkl'
        obtain ⟨f_1, hml, f_3⟩ := hf
        obtain ⟨gb, rfl, k0, k1, k2⟩ := r3.at hkl'
        obtain ⟨gb', e, m0, m1, m2⟩ := r3.at hml
        cases e
        refine ⟨_, rfl, _, rfl, _, _, _, hc, _, rfl, by omega, by omega, _, by rw [Int.toNat_natCast]; exact k0, _, by rw [Int.toNat_natCast]; exact k1, _, by rw [Int.toNat_natCast]; exact k2, _, _, _, hc, _, rfl, by omega, by omega, _, by rw [Int.toNat_natCast]; exact m0, _, by rw [Int.toNat_natCast]; exact m1, _, by rw [Int.toNat_natCast]; exact m2, ?_⟩
        refine (less_ok (g L1 k) (g L1 m) _).use ?_
        rintro v w4 ⟨rfl, f4⟩
        refine ⟨_, rfl, ?_⟩
        have r4 := r3.fr0 f4
        have f4' : Fr (ownAt (some ⟨gb, 0, none⟩)) w w4 := f3.trans' (f4.mono fun _ _ h => h.elim)
        refine cD (fun hl => ?_) (fun hl => ?_)
        all_goals rw [IntWalk.i64_in ((q : Int) + 1) (by omega)]
        · refine ⟨⟨k, q + 1, rfl, rfl, by omega, .inl ⟨.inr ⟨by omega, ?_⟩, hkl', fun k' hk' hl' => ?_⟩, r4, f4'⟩, by dsimp only; omega⟩
          · rcases f_1 with rfl | ⟨_, h⟩
            · exact hl
            · unfold lt at *; omega
          · by_cases e : k' = q
            · subst e; subst hk; unfold lt; omega
            · exact lt_le hl (f_3 k' (by omega) hl')
        · refine ⟨⟨m, q + 1, rfl, rfl, by omega, .inl ⟨f_1, hml, fun k' hk' hl' => ?_⟩, r4, f4'⟩, by dsimp only; omega⟩
          by_cases e : k' = q
          · subst e; subst hk; exact hl
          · exact f_3 k' (by omega) hl'
      · refine cF rfl ?_
        rw [IntWalk.i64_in ((q : Int) + 1) (by omega)]
        refine ⟨⟨m, q + 1, rfl, rfl, by omega, ?_, r3, f3⟩, by dsimp only; omega⟩
        rcases hfin with ⟨f_1, hml, f_3⟩ | h
        · refine .inl ⟨f_1, hml, fun k' hk' hl' => ?_⟩
          by_cases e : k' = q
          · subst e; omega
          · exact f_3 k' (by omega) hl'
        · exact .inr h
    refine ⟨by omega, by omega, fun e => ?_, fun e => ?_⟩
    · have := core (2 * j + 1) (by omega)
      rw [show ((2 * j + 1 : Nat) : Int) = 2 * (j : Int) + 1 by omega] at this
      exact this
    · have := core (2 * j + 2) (by omega)
      rw [show ((2 * j + 2 : Nat) : Int) = 2 * (j : Int) + 2 by omega] at this
      exact this
  · have hq : q = 2 := by omega
    subst hq
    refine cD (fun he => ?_) (fun he => ?_)
    · have he' : m = j := by omega
      subst he'
      refine ⟨rfl, L1, hperm, fun k k0 kl => ?_, r2, f2⟩
      by_cases e : (k - 1) / 2 = m
      · rcases hfin with ⟨_, _, f_3⟩ | ⟨h, _⟩
        · rw [e]
          have := f_3 (k - (2 * m + 1)) (by omega) (by omega)
          rwa [show 2 * m + 1 + (k - (2 * m + 1)) = k by omega] at this
        · subst h; simp at kl
      · exact v1 k k0 kl e
    · rcases hfin with hf | ⟨_, h⟩
      · have hml := hf.2.1
        have hji : j < L1.length := by
          rcases hjl with h | h
          · exact h
          · subst h; simp at hml
        refine (swap_ok r2 hji hml).use ?_
        rintro v w4 ⟨rfl, r4, f4⟩
        obtain ⟨a1, a2⟩ := down_step hji v1 v2 hf (by omega)
        have : j < m := by rcases hf.1 with h | ⟨h | h, _⟩ <;> omega
        refine ⟨rfl, ⟨m, _, rfl, .inl (by rw [swp_len]; exact hml), by omega, (swp_perm hji hml).trans hperm, a1, a2, r4, f2.trans' f4⟩, by dsimp only; omega⟩
      · omega
end
end Go.Proofs
