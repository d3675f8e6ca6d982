import Derived.Test.YtgcffkjnacmpjaaLockF
import Derived.Test.YtgcffkjnacmpjaaHp5
import Derived.Laws.StructEq
import Derived.Laws.Cover2
set_option linter.unusedVariables false
namespace Go.Proofs
open Go Go.Eng
theorem pair_eq (a b c d : Int) (w : World) : (do eqGuard .eql 51 (.tmp 28) (.tmp 31) (.agg ⟨[(.int .i64 a), (.int .i64 b)]⟩) (.agg ⟨[(.int .i64 c), (.int .i64 d)]⟩); binOp .eql 51 (.agg ⟨[(.int .i64 a), (.int .i64 b)]⟩) (.agg ⟨[(.int .i64 c), (.int .i64 d)]⟩)).run Try.prog w = .ok (.bool (decide (a = c ∧ b = d))) w := by
  have u3 := Try.underlying3
  have a3 := Try.isAgg3
  have z3 := Try.sizeOf3
  have hS : Try.prog.underlying 51 = some (.struct (Try.prog.fieldsOf 51)) := by kernel_rfl
  have hp : Try.prog.stoodInHeld 51 = false := by kernel_rfl
  have e : (Op.equalIn 10000 51 (.agg #[.int .i64 a, .int .i64 b]) (.agg #[.int .i64 c, .int .i64 d])).run Try.prog w = .ok (a == c && b == d) w := by
    rw [show (10000 : Nat) = 9999 + 1 from rfl, run_equalIn_agg w 9999 51 _ _ hS hp]
    simp only [Program.fieldsOf, Try.underlying51]
    go_simp
    by_cases h1 : a = c <;> by_cases h2 : b = d <;> simp [h1, h2]
  show (do eqGuard .eql 51 (.tmp 28) (.tmp 31) (.agg #[(.int .i64 a), (.int .i64 b)]) (.agg #[(.int .i64 c), (.int .i64 d)]); binOp .eql 51 (.agg #[(.int .i64 a), (.int .i64 b)]) (.agg #[(.int .i64 c), (.int .i64 d)])).run Try.prog w = _
  rw [Sem.run_bind, run_eqGuard_agg w _ _ _ _ _ _ (by kernel_rfl)]
  simp only [Result.andThen]
  rw [run_eql_struct, e]
  simp only [Result.andThen]
  congr 2
  by_cases h1 : a = c <;> by_cases h2 : b = d <;> simp [h1, h2]
theorem E36 : ElT Try.prog 36 51 2 16 := elT_of (by kernel_rfl)
abbrev Pr := Int × Int
def pc (p : Pr) : List Value := [.int .i64 p.1, .int .i64 p.2]
theorem pc_len (p : Pr) : (pc p).length = 2 := rfl
theorem pc_one (p : Pr) : ∀ v ∈ pc p, v.oneCell' = true := by
  intro v hv
  simp [pc] at hv
  rcases hv with rfl | rfl <;> rfl
def PsAt (B : Nat) (w : World) (r : Nat) (Ps : List Pr) : Prop := bw B w r ∧ ∃ A c, Blk w r 38 [.slice A Ps.length c] ∧ Own w 51 2 (bw B w) A Ps.length c (rws pc Ps)
def Rel (Ps : List Pr) (T : Tab) : Prop :=
  (∀ p ∈ Ps, valid p.1 p.2 ∧ T p.2.toNat = p.1 + 1) ∧ Ps.Pairwise (fun p q => p.2 ≠ q.2) ∧ ∀ z : Nat, z < 26 → T z ≠ 0 → ((T z - 1, (z : Int)) : Pr) ∈ Ps
def RefT (B : Nat) (w : World) (r n : Nat) (T : Tab) : Prop := ∃ Ps, PsAt B w r Ps ∧ Rel Ps T ∧ Ps.length ≤ n
theorem PsAt.frT {B : Nat} {w w' : World} {r : Nat} {Ps : List Pr} {F : Nat → Prop} (h : PsAt B w r Ps) (hf : Fr F w w') (hF : ∀ k, k < w.heap.size → F k → ¬ hasTy w [38, 51] k) : PsAt B w' r Ps := by
  obtain ⟨hb, A, c, j1, j2⟩ := h
  refine ⟨bw_mono hf.size hb, A, c, j1.fr hf (fun hk => hF _ j1.lt hk (j1.hasTy (by decide))), (j2.fr1 hf fun a ha hk => hF _ (j2.has a ha).2 hk (by obtain ⟨cur, hc⟩ := j2.obj a ha; exact ⟨cur, 51, hc, by decide⟩)).mono fun k hk h => ⟨h.1, hk⟩⟩
theorem RefT.frT {B : Nat} {w w' : World} {r n : Nat} {T : Tab} {F : Nat → Prop} (h : RefT B w r n T) (hf : Fr F w w') (hF : ∀ k, k < w.heap.size → F k → ¬ hasTy w [38, 51] k) : RefT B w' r n T := by
  obtain ⟨Ps, h1, h2⟩ := h
  exact ⟨Ps, h1.frT hf hF, h2⟩
theorem RefT.fr0 {B : Nat} {w w' : World} {r n : Nat} {T : Tab} (h : RefT B w r n T) (hf : Fr none1 w w') : RefT B w' r n T := h.frT hf fun k _ h => h.elim
def refF (B : Nat) (w : World) : Nat → Prop := fun k => bw B w k ∧ hasTy w [38, 51] k
theorem rel_own {Ps : List Pr} {T : Tab} (h : Rel Ps T) {p : Pr} (hp : p ∈ Ps) : owned T p.2 = true ∧ ownR T p.2 = p.1 := by
  obtain ⟨⟨h0, h1, h2, h3⟩, h4⟩ := h.1 p hp
  have e : owned T p.2 = true := by simp [owned]; omega
  exact ⟨e, by simp [ownR, e, h4]⟩
theorem ref_owner {B : Nat} {w : World} {r n : Nat} {T : Tab} (h : RefT B w r n T) (hn : n ≤ 1000) (z : Int) : Ret Try.prog 16 [.pointer (some ⟨r, 0, none⟩), .int .i64 z] w fun v w' => v = .tuple ⟨[.int .i64 (ownR T z), .bool (owned T z)]⟩ ∧ w' = w := by
  obtain ⟨Ps, ⟨hb, A, c, j1, j2⟩, hR, hl⟩ := h
  apply S16_calls
  refine ⟨fun s w' => w' = w ∧ ∃ i : Nat, s.1 = (i : Int) ∧ i ≤ Ps.length ∧ ∀ p ∈ Ps.take i, p.2 ≠ z, fun s _ => Ps.length - s.1.toNat, ⟨rfl, 0, rfl, Nat.zero_le _, by simp⟩, ?_⟩
  rintro J ⟨i', ⟨⟩⟩ w' ⟨rfl, i, hi, hle, hno⟩
  dsimp only at hi ⊢
  subst hi
  refine ⟨_, rfl, A, _, c, by rw [j1.cell]; rfl, ?_⟩
  refine cD (fun hlt => ?_) (fun hlt => ?_)
  · have hi' : i < Ps.length := by omega
    have hx : Ps[i]? = some Ps[i] := List.getElem?_eq_getElem hi'
    obtain ⟨g, rfl, _, hc⟩ := j2.elem pc_len hx (by decide)
    refine ⟨_, rfl, _, _, c, by rw [j1.cell]; rfl, _, rfl, by omega, by omega, Ps[i].2, by rw [Int.toNat_natCast]; exact hc 1 _ (by decide) rfl, ?_⟩
    refine cD (fun he => ?_) (fun he => ?_)
    · have h0 := hc 0 _ (by decide) rfl
      rw [add_zero'] at h0
      obtain ⟨e1, e2⟩ := rel_own hR (List.getElem_mem hi')
      rw [he] at e1 e2
      exact ⟨_, rfl, _, _, c, by rw [j1.cell]; rfl, _, rfl, by omega, by omega, Ps[i].1, by rw [Int.toNat_natCast]; exact h0, by rw [e1, e2], rfl⟩
    · rw [IntWalk.i64_in ((i : Int) + 1) (by omega)]
      refine ⟨⟨rfl, i + 1, rfl, by omega, fun p hp => ?_⟩, by dsimp only; omega⟩
      rw [List.take_add_one, hx] at hp
      simp only [Option.toList, List.mem_append, List.mem_singleton] at hp
      rcases hp with hp | rfl
      · exact hno p hp
      · exact he
  · have : i = Ps.length := by omega
    subst this
    rw [List.take_length] at hno
    have e : owned T z = false := by
      cases e : owned T z with
      | false => rfl
      | true =>
        simp [owned] at e
        obtain ⟨h0, h1, h2⟩ := e
        have := hR.2.2 z.toNat (by omega) h2
        exact absurd (show ((z.toNat : Nat) : Int) = z by omega) (hno _ this)
    exact ⟨by simp [ownR, e], rfl⟩
theorem ref_right (r z : Int) (w : World) : Ret Try.prog 23 [.int .i64 r, .int .i64 z] w fun v w' => v = .bool (decide (valid r z)) ∧ w' = w := by
  apply S23_calls
  have no : ¬ valid r z → Value.bool false = .bool (decide (valid r z)) := fun h => by rw [decide_eq_false h]
  refine cD (fun h0 => cD (fun h1 => cD (fun h2 => ⟨?_, rfl⟩) (fun h => ⟨no ?_, rfl⟩)) (fun h => ⟨no ?_, rfl⟩)) (fun h => ⟨no ?_, rfl⟩)
  · congr 1; rw [decide_eq_decide]; unfold valid; omega
  all_goals unfold valid; omega
theorem rel_hold {Ps : List Pr} {T : Tab} (h : Rel Ps T) {r z : Int} (hv : valid r z) (ho : owned T z = false) : Rel (Ps ++ [(r, z)]) (upd T z.toNat (r + 1)) := by
  have hv' := hv
  obtain ⟨h0, h1, h2, h3⟩ := hv'
  have hz : T z.toNat = 0 := by simp [owned] at ho; exact ho h2 h3
  have hne : ∀ p ∈ Ps, p.2 ≠ z := fun p hp e => by
    have := (rel_own h hp).1
    rw [e, ho] at this; cases this
  refine ⟨fun p hp => ?_, ?_, fun z' hz' hT => ?_⟩
  · rw [List.mem_append, List.mem_singleton] at hp
    rcases hp with hp | rfl
    · obtain ⟨a, b⟩ := h.1 p hp
      refine ⟨a, ?_⟩
      have := hne p hp
      obtain ⟨_, _, a2, _⟩ := a
      unfold upd; rw [if_neg (by omega)]; exact b
    · exact ⟨hv, by simp [upd]⟩
  · rw [List.pairwise_append]
    exact ⟨h.2.1, by simp, fun p hp q hq => by simp at hq; subst hq; exact hne p hp⟩
  · rw [List.mem_append, List.mem_singleton]
    unfold upd at hT ⊢
    by_cases e : z' = z.toNat
    · right; rw [if_pos e]; ext <;> simp; omega
    · left; rw [if_neg e] at hT ⊢; exact h.2.2 z' hz' hT
theorem ref_hold {B : Nat} {w : World} {rf n : Nat} {T : Tab} (h : RefT B w rf n T) (hB : B ≤ w.heap.size) (hn : n ≤ 1000) (r z : Int) : Ret Try.prog 13 [.pointer (some ⟨rf, 0, none⟩), .int .i64 r, .int .i64 z] w fun v w' => v = .int .i64 (holdE T r z) ∧ RefT B w' rf (n + 1) (holdT T r z) ∧ Fr (refF B w) w w' := by
  have more : ∀ {T' : Tab} {w' : World}, RefT B w' rf n T' → RefT B w' rf (n + 1) T' := fun ⟨Ps, a, b, c⟩ => ⟨Ps, a, b, by omega⟩
  apply S13_calls
  refine (ref_right r z w).use ?_
  rintro v w ⟨rfl, rfl⟩
  refine ⟨_, rfl, ?_⟩
  by_cases hv : valid r z
  · refine cF (by simp [hv]) ?_
    refine (ref_owner h hn z).use ?_
    rintro v w ⟨rfl, rfl⟩
    refine ⟨_, _, rfl, ?_⟩
    have hv' := hv
    obtain ⟨v0, v1, v2, v3⟩ := hv'
    refine cB (fun ho => ?_) (fun ho => ?_)
    · have hT : T z.toNat ≠ 0 := by simp [owned] at ho; exact ho.2.2
      have hO : ownR T z = T z.toNat - 1 := by simp [ownR, ho]
      refine cN (fun he => ?_) (fun he => ?_)
      · have e : holdE T r z = 3 := by unfold holdE; rw [if_pos hv, if_pos ⟨hT, by omega⟩]
        unfold holdT; rw [e]
        exact ⟨rfl, more h, Fr.refl _ _⟩
      · have e : holdE T r z = 0 := by unfold holdE; rw [if_pos hv, if_neg (by omega)]
        have e2 : holdT T r z = T := funext (same_tab T r z (.inl ho))
        rw [e, e2]
        exact cF (by simp [ho]) ⟨rfl, more h, Fr.refl _ _⟩
    · have hz : T z.toNat = 0 := by simp [owned] at ho; exact ho v2 v3
      have e : holdE T r z = 0 := by unfold holdE; rw [if_pos hv, if_neg (by omega)]
      have e2 : holdT T r z = upd T z.toNat (r + 1) := by unfold holdT; rw [if_pos e]
      rw [e, e2]
      obtain ⟨Ps, ⟨hb, A, c, j1, j2⟩, hR, hl⟩ := h
      refine cF rfl (cT (by simp [ho]) ⟨_, rfl, A, _, c, by rw [j1.cell]; rfl, ?_⟩)
      have a2 : Fr none1 w (w.alloc (.cells ⟨pc (r, z)⟩ 51)) := Fr.alloc _ _
      have lit := Own.lit w 51 2 1 (pc (r, z)) rfl (by simp [maxLen])
      have j1' := j1.fr a2 (fun h => h)
      have j2' := ownB j2 a2
      obtain ⟨A', c', w3, r3, o3, f4, g4⟩ := appB (ty := 36) (m := 1) (c2 := 1) E36 j2' (Nat.le_trans hB a2.size) rfl lit.rd (pc_one (r, z)) (by omega) (by simp only [maxLen]; omega)
      have k1 := j1'.fr f4 (fun ⟨a, ha, hab⟩ => j2'.ne_blk j1' (by decide) a ha hab)
      refine ⟨A', _, c', w3, r3, _, rfl, k1.has 0 (by simp), k1.free 0, rfl, ?_, ?_⟩
      all_goals have hs : Fr (fun k => k = rf) w3 (w3.setCell ⟨rf, 0, none⟩ (.slice A' (Ps.length + 1) c')) := Fr.setCell (F := fun k => k = rf) w3 rfl _
      · have m1 := Nat.le_trans a2.size (Nat.le_trans f4.size hs.size)
        refine ⟨Ps ++ [(r, z)], ⟨bw_mono m1 hb, A', c', ?_, ?_⟩, rel_hold hR hv ho, by simp; omega⟩
        · rw [List.length_append]; exact k1.set 0 _
        · rw [List.length_append, rws_append, rws_one]
          exact (o3.fr1 hs fun a ha e => o3.ne_blk k1 (by decide) a ha e).mono fun k hk h => ⟨h.1, hk⟩
      · refine (a2.mono fun _ _ h => h.elim).trans' ((f4.mono ?_).trans' (hs.mono ?_))
        · rintro k hk ⟨a, ha, rfl⟩; exact ⟨(j2.has a ha).1, by obtain ⟨cur, hc⟩ := j2.obj a ha; exact ⟨cur, 51, hc, by decide⟩⟩
        · rintro k hk rfl; exact ⟨hb, j1.hasTy (by decide)⟩
  · refine cT (by simp [hv]) ?_
    have e : holdE T r z = 1 := by unfold holdE; rw [if_neg hv]
    unfold holdT
    rw [e]
    exact ⟨rfl, more h, Fr.refl _ _⟩
theorem rel_rel {Ps : List Pr} {T : Tab} (h : Rel Ps T) {r z : Int} {i : Nat} (hi : Ps[i]? = some (r, z)) : Rel (Ps.eraseIdx i) (upd T z.toNat 0) := by
  have hlt := (List.getElem?_eq_some_iff.1 hi).1
  have hge := (List.getElem?_eq_some_iff.1 hi).2
  have hmem : ((r, z) : Pr) ∈ Ps := List.mem_of_getElem? hi
  obtain ⟨⟨h0, h1, h2, h3⟩, h4⟩ := h.1 _ hmem
  dsimp only at h0 h1 h2 h3 h4
  have hne : ∀ p ∈ Ps.eraseIdx i, p ∈ Ps ∧ p.2 ≠ z := fun p hp => by
    rw [List.mem_eraseIdx_iff_getElem] at hp
    obtain ⟨j, hj, hji, rfl⟩ := hp
    refine ⟨List.getElem_mem _, fun e => ?_⟩
    have pw := List.pairwise_iff_getElem.1 h.2.1
    rcases Nat.lt_or_gt_of_ne hji with hl | hl
    · exact pw j i hj hlt hl (by rw [hge]; exact e)
    · exact pw i j hlt hj hl (by rw [hge]; exact e.symm)
  refine ⟨fun p hp => ?_, h.2.1.sublist (List.eraseIdx_sublist _ _), fun z' hz' hT => ?_⟩
  · obtain ⟨a, b⟩ := hne p hp
    obtain ⟨c, d⟩ := h.1 p a
    refine ⟨c, ?_⟩
    obtain ⟨_, _, c2, _⟩ := c
    unfold upd; rw [if_neg (by omega)]; exact d
  · unfold upd at hT ⊢
    by_cases e : z' = z.toNat
    · rw [if_pos e] at hT; exact absurd rfl hT
    · rw [if_neg e] at hT ⊢
      have hm := h.2.2 z' hz' hT
      obtain ⟨j, hj, hjj⟩ := List.mem_iff_getElem.1 hm
      rw [List.mem_eraseIdx_iff_getElem]
      refine ⟨j, hj, fun e2 => ?_, hjj⟩
      subst e2
      rw [hge] at hjj
      have : z = (z' : Int) := congrArg Prod.snd hjj
      omega
theorem ref_rel {B : Nat} {w : World} {rf n : Nat} {T : Tab} (h : RefT B w rf n T) (hB : B ≤ w.heap.size) (hn : n ≤ 1000) (r z : Int) : Ret Try.prog 14 [.pointer (some ⟨rf, 0, none⟩), .int .i64 r, .int .i64 z] w fun v w' => v = .int .i64 (relE T r z) ∧ RefT B w' rf n (relT T r z) ∧ Fr (refF B w) w w' := by
  apply S14_calls
  refine (ref_right r z w).use ?_
  rintro v w ⟨rfl, rfl⟩
  refine ⟨_, rfl, ?_⟩
  by_cases hv : valid r z
  · refine cF (by simp [hv]) ?_
    obtain ⟨Ps, hps, hR, hl⟩ := h
    have hps' := hps
    obtain ⟨hb, A, c, j1, j2⟩ := hps'
    refine ⟨fun s w' => w' = w ∧ ∃ i : Nat, s.1 = (i : Int) ∧ i ≤ Ps.length ∧ ((r, z) : Pr) ∉ Ps.take i, fun s _ => Ps.length - s.1.toNat, ⟨rfl, 0, rfl, Nat.zero_le _, by simp⟩, ?_⟩
    rintro J ⟨i', ⟨⟩⟩ w' ⟨rfl, i, hi, hle, hno⟩
    dsimp only at hi ⊢
    subst hi
    have hv' := hv
    obtain ⟨v0, v1, v2, v3⟩ := hv'
    refine ⟨_, rfl, A, _, c, by rw [j1.cell]; rfl, ?_⟩
    refine cD (fun hlt => ?_) (fun hlt => ?_)
    · have hi' : i < Ps.length := by omega
      have hx : Ps[i]? = some Ps[i] := List.getElem?_eq_getElem hi'
      obtain ⟨g, rfl, _, hc⟩ := j2.elem pc_len hx (by decide)
      have h0 := hc 0 _ (by decide) rfl
      rw [add_zero'] at h0
      refine ⟨_, rfl, _, _, c, by rw [j1.cell]; rfl, _, rfl, by omega, by omega, Ps[i].1, by rw [Int.toNat_natCast]; exact h0, Ps[i].2, by rw [Int.toNat_natCast]; exact hc 1 _ (by decide) rfl, _, _, pair_eq _ _ _ _ w', ?_⟩
      have hle2 := j2.le
      refine cD (fun he => ?_) (fun he => ?_)
      · have hp : Ps[i] = (r, z) := Prod.ext he.1 he.2
        rw [hp] at hx
        obtain ⟨_, hT⟩ := hR.1 _ (List.mem_of_getElem? hx)
        dsimp only at hT
        have e : relE T r z = 0 := by unfold relE; rw [if_pos hv, if_neg (by omega)]
        have e2 : relT T r z = upd T z.toNat 0 := by unfold relT; rw [if_pos e]
        rw [e, e2, IntWalk.i64_in ((i : Int) + 1) (by omega)]
        have e3 : Int.toNat (i : Int) - 0 = i := by simp
        have e4 : Int.toNat ((i : Int) + 1) = i + 1 := by omega
        rw [e3, e4]
        have a2 : Fr none1 w' (w'.alloc (.cells ⟨[]⟩ 51)) := Fr.alloc _ _
        have lit : Own (w'.alloc (.cells ⟨[]⟩ 51)) 51 2 (bw w'.heap.size (w'.alloc (.cells ⟨[]⟩ 51))) (some ⟨w'.heap.size, 0, none⟩) 0 0 [] :=
          (Own.lit w' 51 2 0 [] rfl (Nat.zero_le _)).mono fun k hk h => ⟨by omega, hk⟩
        have j1' := j1.fr a2 (fun h => h)
        have j2' := ownB j2 a2
        have g2 := a2.size
        refine ⟨_, rfl, _, _, c, by rw [j1'.cell]; rfl, by omega, by omega, ?_⟩
        rw [slAddr_zero, Nat.sub_zero]
        have len := rws_length pc_len Ps
        obtain ⟨A4, c4, w4, r4, o4, f4, g4⟩ := appB (ty := 36) (m := i) (c2 := c) (news := (rws pc Ps).take (i * 2)) E36 lit g2 (by rw [List.length_take]; omega) (j2'.rd.take (i * 2)) (fun u hu => rws_cells pc_one Ps u (List.mem_of_mem_take hu)) (by omega) (by simp only [maxLen]; omega)
        have k1 := j1'.fr f4 (fun ⟨a, ha, hab⟩ => lit.ne_blk j1' (by decide) a ha hab)
        refine ⟨A4, _, c4, w4, r4, _, rfl, _, _, c, by rw [k1.cell]; rfl, by omega, by omega, ?_⟩
        have k2 := j2'.fr1 f4 (fun a ha ⟨a', ha', hab⟩ => by cases ha'; have h1 := (j2.has a ha).2; simp only at hab; omega)
        have rd4 := k2.rd.drop (m := c) (l := i + 1) (sz := 2) (by rw [len]; omega)
        obtain ⟨A5, c5, w5, r5, o5, f5, g6⟩ := appB (ty := 36) (m := Ps.length - (i + 1)) (c2 := c - (i + 1)) E36 o4 (Nat.le_trans g2 g4.size) (by rw [List.length_drop, len]; omega) rd4 (fun u hu => rws_cells pc_one Ps u (List.mem_of_mem_drop hu)) (by omega) (by simp only [maxLen]; omega)
        have l1 := k1.fr f5 (fun ⟨a, ha, hab⟩ => o4.ne_blk k1 (by decide) a ha hab)
        refine ⟨A5, _, c5, w5, r5, _, rfl, l1.has 0 (by simp), l1.free 0, rfl, ?_, ?_⟩
        all_goals have hs : Fr (fun k => k = rf) w5 (w5.setCell ⟨rf, 0, none⟩ (.slice A5 (0 + i + (Ps.length - (i + 1))) c5)) := Fr.setCell (F := fun k => k = rf) w5 rfl _
        · have hsz : (Ps.eraseIdx i).length = 0 + i + (Ps.length - (i + 1)) := by rw [List.length_eraseIdx, if_pos hi']; omega
          have hxs : rws pc (Ps.eraseIdx i) = [] ++ (rws pc Ps).take (i * 2) ++ (rws pc Ps).drop ((i + 1) * 2) := by
            rw [rws_eraseIdx, rws_take pc_len, rws_drop pc_len, List.nil_append]
          rw [← hxs] at o5
          have m1 := Nat.le_trans (Nat.le_trans a2.size f4.size) (Nat.le_trans f5.size hs.size)
          refine ⟨Ps.eraseIdx i, ⟨bw_mono m1 hb, A5, c5, ?_, ?_⟩, rel_rel hR hx, by omega⟩
          · rw [hsz]; exact l1.set 0 _
          · rw [hsz]
            exact (o5.fr1 hs fun a ha e => o5.ne_blk l1 (by decide) a ha e).mono fun k hk h => ⟨Nat.le_trans hB h.1, hk⟩
        · have f15 : Fr none1 w' w5 := Fr.top ((Fr.bel0 a2).trans' (g4.trans' g6))
          exact (f15.mono fun _ _ h => h.elim).trans' (hs.mono (by rintro k hk rfl; exact ⟨hb, j1.hasTy (by decide)⟩))
      · rw [IntWalk.i64_in ((i : Int) + 1) (by omega)]
        refine ⟨⟨rfl, i + 1, rfl, by omega, fun hp => ?_⟩, by dsimp only; omega⟩
        rw [List.take_add_one, hx] at hp
        simp only [Option.toList, List.mem_append, List.mem_singleton] at hp
        rcases hp with hp | hp
        · exact hno hp
        · exact he ⟨by rw [← hp], by rw [← hp]⟩
    · have : i = Ps.length := by omega
      subst this
      rw [List.take_length] at hno
      have e : relE T r z = 2 := by
        unfold relE
        rw [if_pos hv, if_pos]
        intro hT
        apply hno
        have := hR.2.2 z.toNat (by omega) (by omega)
        rw [hT, show ((z.toNat : Nat) : Int) = z by omega, show r + 1 - 1 = r by omega] at this
        exact this
      unfold relT
      rw [e]
      exact ⟨rfl, ⟨Ps, hps, hR, hl⟩, Fr.refl _ _⟩
  · refine cT (by simp [hv]) ?_
    have e : relE T r z = 1 := by unfold relE; rw [if_neg hv]
    unfold relT
    rw [e]
    exact ⟨rfl, h, Fr.refl _ _⟩
end Go.Proofs
