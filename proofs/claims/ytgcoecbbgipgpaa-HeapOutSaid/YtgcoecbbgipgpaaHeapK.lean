import Derived.Test.YtgcoecbbgipgpaaHeapJ
import Derived.Test.YtgcoecbbgipgpaaMapK3
import Derived.DeepKeys4
set_option linter.unusedVariables false
set_option maxRecDepth 10000
namespace Go.Proofs
open Go Go.Eng
theorem laid' : laidOutB Try.prog = true := by kernel_rfl
theorem K32 : Maps.Keyed Try.prog 32 := Maps.Keyed.of_law (deep_law_laid laid' (m := 2) (by decide) (of_decide_eq_true (by kernel_rfl)) (by kernel_rfl) (by rw [Try.underlying32]))
def kp (p : It) : Lit := .string (keyBytes [.int .i64 p.1, .int .i64 p.2])
def okP (p : It) : Prop := inI p.1 ∧ inI p.2
theorem fuel2 : ∃ m, Try.prog.types.size + 1 = m + 2 := ⟨Try.prog.types.size - 1, by have : 1 ≤ Try.prog.types.size := of_decide_eq_true (by kernel_rfl); omega⟩
theorem kp_of {p : It} (h : okP p) : keyOf Try.prog 32 (.agg ⟨it2 p⟩) = some (kp p) := by
  obtain ⟨h1, h2⟩ := h
  obtain ⟨m, hm⟩ := fuel2
  have k : Try.prog.keyType 32 = true := by kernel_rfl
  have c32 : Try.prog.cellsOf 32 = 2 := by kernel_rfl
  have c3 : Try.prog.cellsOf 3 = 1 := by kernel_rfl
  unfold keyOf
  rw [Try.underlying32, hm]
  have w1 : (Lit.int .i64 p.1).wf = true := by simp [Lit.wf]; exact h1
  have w2 : (Lit.int .i64 p.2).wf = true := by simp [Lit.wf]; exact h2
  simp [k, Value.formed, Try.underlying32, c32, it2, Program.keyLits, Value.cells, c3, Try.underlying3, w1, w2]
  rfl
theorem kp_inj {p q : It} (hp : okP p) (hq : okP q) (h : kp p = kp q) : p = q := by
  have e := K32.inj (kp_of hp) (by rw [h]; exact kp_of hq)
  simp [it2] at e
  exact Prod.ext e.1 e.2
theorem kp_inv {v : Value} {kl : Lit} (h : keyOf Try.prog 32 v = some kl) : ∃ p, okP p ∧ v = .agg ⟨it2 p⟩ ∧ kl = kp p := by
  obtain ⟨m, hm⟩ := fuel2
  have c32 : Try.prog.cellsOf 32 = 2 := by kernel_rfl
  have c3 : Try.prog.cellsOf 3 = 1 := by kernel_rfl
  have h0 := h
  unfold keyOf at h
  rw [Try.underlying32, hm] at h
  simp only at h
  split at h
  · rename_i hf
    simp only [Bool.and_eq_true] at hf
    have hf2 := hf.2
    clear hf
    obtain ⟨cs, rfl⟩ : ∃ cs, v = .agg cs := by
      cases v <;> simp [Value.formed, Try.underlying32] at hf2 <;> exact ⟨_, rfl⟩
    have hsz : cs.size = 2 := by simpa [Value.formed, Try.underlying32, c32] using hf2
    obtain ⟨l⟩ := cs
    match l, hsz with
    | [a, b], _ =>
      have int1 : ∀ x : Value, (∃ q, Program.keyLits Try.prog (m + 1) 3 [x] = some q) → ∃ n, x = .int .i64 n ∧ inI n := by
        rintro x ⟨q, hq⟩
        cases x <;> simp [Program.keyLits, Try.underlying3] at hq
        obtain ⟨⟨rfl, hw⟩, _⟩ := hq
        simp [Lit.wf] at hw
        exact ⟨_, rfl, hw⟩
      unfold Program.keyLits at h
      rw [Try.underlying32] at h
      simp [Value.cells, c32, c3, Option.bind_eq_some_iff] at h
      obtain ⟨q1, h1, _, ⟨q2, h2, rfl⟩, _⟩ := h
      obtain ⟨x, rfl, hx⟩ := int1 a ⟨q1, h1⟩
      obtain ⟨y, rfl, hy⟩ := int1 b ⟨q2, h2⟩
      have e := kp_of (p := (x, y)) ⟨hx, hy⟩
      refine ⟨(x, y), ⟨hx, hy⟩, rfl, ?_⟩
      have e2 := h0.symm.trans e
      exact Option.some.inj e2
  · cases h
def CI (S : List En) (p : It) : Int := ((S.map itm).count p : Int)
theorem CI_ins (x : En) (S : List En) (p : It) : CI (insE x S) p = CI S p + (if itm x = p then 1 else 0) := by
  unfold CI
  rw [((insE_perm x S).map itm).count_eq, List.map_cons, List.count_cons]
  split
  · rename_i h; simp at h; rw [if_pos h]; omega
  · rename_i h; simp at h; rw [if_neg h]; omega
theorem CI_cons (x : En) (S : List En) (p : It) : CI (x :: S) p = CI S p + (if itm x = p then 1 else 0) := by
  unfold CI
  rw [List.map_cons, List.count_cons]
  split
  · rename_i h; simp at h; rw [if_pos h]; omega
  · rename_i h; simp at h; rw [if_neg h]; omega
theorem CI_le (S : List En) (p : It) : 0 ≤ CI S p ∧ CI S p ≤ S.length := by
  unfold CI
  have := List.count_le_length (a := p) (l := S.map itm)
  rw [List.length_map] at this
  omega
theorem CI_min {e : En} {S : List En} (h : Srt (e :: S)) {p : It} (hk : 0 < CI (e :: S) p) : e.1 ≤ p.1 := by
  unfold CI at hk
  have hm : p ∈ (e :: S).map itm := List.count_pos_iff.1 (by omega)
  obtain ⟨x, hx, rfl⟩ := List.mem_map.1 hm
  rcases List.mem_cons.1 hx with rfl | hx
  · exact Int.le_refl _
  · have := (List.pairwise_cons.1 h).1 x hx
    unfold lt at this; unfold itm; simp only; omega
theorem U40 : Try.prog.underlying 40 = some (.map 32 3) := by kernel_rfl
def ItemsIn (w : World) (m n : Nat) (S : List En) : Prop := ∃ F, MapAt w Try.prog 32 3 m n F ∧ ∀ p, okP p → F (kp p) = CI S p
theorem ItemsIn.fr {w w' : World} {m n : Nat} {S : List En} {G : Nat → Prop} (h : ItemsIn w m n S) (f : Fr G w w') (hm : ¬ G m) : ItemsIn w' m n S := by
  obtain ⟨F, h1, h2⟩ := h; exact ⟨F, h1.fr f hm, h2⟩
theorem ItemsIn.notTy {w : World} {m n : Nat} {S : List En} (h : ItemsIn w m n S) (ts : List Nat) : ¬ hasTy w ts m := by
  obtain ⟨F, h1, _⟩ := h; exact MapAt.notTy h1 ts
theorem ItemsIn.look {w : World} {m n : Nat} {S : List En} (h : ItemsIn w m n S) {p : It} (hp : okP p) : (Instr.lookup 40 (.map (some m)) (.agg ⟨it2 p⟩) false).run Try.prog w = .ok (.int .i64 (CI S p)) w := by
  obtain ⟨F, h1, h2⟩ := h
  have := MapAt.lookup h1 K32 U40 U3' Z3 (kp_of hp) trivial
  rwa [h2 p hp] at this
open Classical in
theorem ItemsIn.entry {w : World} {m n : Nat} {S S' : List En} (h : ItemsIn w m n S) {p : It} (hp : okP p) (hn : n ≤ 100000) (hb : S'.length ≤ 100000) (ho : ∀ q, q ≠ p → CI S' q = CI S q) :
    ∃ (s : Int) (w1 : World), (Instr.mapEntry 40 (.map (some m)) (.agg ⟨it2 p⟩)).run Try.prog w = .ok (.tuple #[.int .i64 (CI S p), .int .i64 s]) w1 ∧ ItemsIn w1 m (n + 1) S ∧ Fr (fun b => b = m) w w1 ∧
      ∃ w2, (Instr.entryStore 40 (.map (some m)) (.int .i64 s) (.int .i64 (CI S' p))).run Try.prog w1 = .ok () w2 ∧ ItemsIn w2 m (n + 1) S' ∧ Fr (fun b => b = m) w w2 := by
  obtain ⟨F, h1, h2⟩ := h
  obtain ⟨s, w1, e1, m1, f1, k⟩ := MapAt.entry h1 K32 U40 U3' Z3 (by simp only [maxLen]; omega) (kp_of hp) trivial
  have hc := CI_le S' p
  obtain ⟨w2, e2, m2, f2⟩ := k (CI S' p) (fun l => if l = kp p then CI S' p else F l) (by simp [Lit.wf, IntKind.min, IntKind.max, IntKind.bits, IntKind.signed]; omega) (by simp) (fun l hl => by simp [hl])
  rw [h2 p hp] at e1
  refine ⟨s, w1, e1, ⟨F, m1, h2⟩, f1, w2, e2, ⟨_, m2, fun q hq => ?_⟩, f2⟩
  by_cases e : q = p
  · subst e; simp
  · have : kp q ≠ kp p := fun h => e (kp_inj hq hp h)
    simp only [this, if_false]
    rw [h2 q hq, ho q e]
def OutI (B : Nat) (w : World) (hp m la n k : Nat) (S : List En) (last : It) : Prop := HeapIs B w hp S k ∧ ItemsIn w m n S ∧ Blk w la 32 (it2 last) ∧ B ≤ m ∧ B ≤ la ∧ ∀ e ∈ S, okP (itm e)
theorem OutI.fr0 {B : Nat} {w w' : World} {hp m la n k : Nat} {S : List En} {last : It} (h : OutI B w hp m la n k S last) (f : Fr none1 w w') : OutI B w' hp m la n k S last := ⟨h.1.fr0 f, h.2.1.fr f (fun h => h), h.2.2.1.fr f (fun h => h), h.2.2.2⟩
section
variable {W : World} {hp m la : Nat}
/-- Behind the walk of all items: one is gone. -/
theorem out_gone {B1 : Int × Bool × Int × Unit → World → Prop} {w : World} {e : En} {S : List En} {A : Option Addr} {l c x mm k : Nat} {a : Int} {n : Nat} {last : It} (H0 : HeapIs W.heap.size w hp S k) (L0 : Blk w la 32 (it2 last)) (hBm : W.heap.size ≤ m) (hBl : W.heap.size ≤ la) (hI : ∀ e ∈ S, okP (itm e)) (hm : ItemsIn w m mm (e :: S)) (he : okP (itm e)) (hb : Blk w x 32 (it2 (itm e))) (hx : x ≠ la) (hn : (n : Int) + 1 ≤ 1000) (hmm : mm ≤ 1000) (hl : S.length ≤ 1000)
    (K : ∀ w', Bel W.heap.size w w' → OutI W.heap.size w' hp m la (mm + 1) k S (itm e) → B1 ((S.length : Int), true, (n : Int) + 1, ()) w') :
    S4_k9 true (some ⟨hp, 0, none⟩) (some m) ((e :: S).length : Int) ⟨la, 0, none⟩ ⟨x, 0, none⟩ A l c a (n : Int) w (fun v w' => v = .bool true ∧ Fr none1 W w') B1 := by
  have d : Fr none1 w w.drew := Fr.drew w
  have H := H0.fr0 d
  have L := L0.fr d (fun h => h)
  have M := hm.fr d (fun h => h)
  have b1 := hb.fr d (fun h => h)
  have hc := CI_le (e :: S) (itm e)
  have hc2 : CI (e :: S) (itm e) - 1 = CI S (itm e) := by rw [CI_cons, if_pos rfl]; omega
  refine ⟨_, (b1.cell 0).trans rfl, _, by rw [add_g]; exact (b1.cell 1).trans rfl, ?_⟩
  simp only [List.length_cons] at hc ⊢
  rw [IntWalk.i64_in (((S.length + 1 : Nat) : Int) - 1) (by omega), IntWalk.i64_in ((n : Int) + 1) (by omega), show (((S.length + 1 : Nat) : Int) - 1) = (S.length : Int) by omega]
  obtain ⟨s, w1, e1, m1, f1, w2, e2, m2, f2⟩ := M.entry (S' := S) he (by omega) (by omega) (fun q hq => by rw [CI_cons, if_neg (fun h => hq h.symm)]; omega)
  have fin : B1 ((S.length : Int), true, (n : Int) + 1, ()) ((w2.setCell ⟨la, 0, none⟩ (.int .i64 (itm e).1)).setCell ((⟨la, 0, none⟩ : Addr).add 1) (.int .i64 (itm e).2)) := by
    have L2 := L.fr f2 (fun h => by subst h; exact M.notTy [32] (L.hasTy (by decide)))
    obtain ⟨_, _, _, _, b3, f3⟩ := L2.wr2' (.int .i64 (itm e).1) (.int .i64 (itm e).2)
    refine K _ ((d.bel0.trans' (f2.bel fun k hk => by subst hk; exact hBm)).trans' (f3.bel fun k hk => by subst hk; exact hBl)) ⟨?_, ?_, b3, hBm, hBl, hI⟩
    · exact (H.frT f2 fun k _ hk => by subst hk; exact M.notTy _).frT f3 fun k _ hk => by subst hk; exact L2.notTy (by decide)
    · exact m2.fr f3 fun hk => by subst hk; exact m2.notTy [32] ((L2.fr (Fr.refl none1 _) (fun h => h)).hasTy (by decide))
  have b2 : Blk w2 x 32 (it2 (itm e)) := b1.fr f2 (fun h => by subst h; exact M.notTy [32] (b1.hasTy (by decide)))
  have L2 := L.fr f2 (fun h => by subst h; exact M.notTy [32] (L.hasTy (by decide)))
  obtain ⟨r1, r2, r3, r4, _, _⟩ := L2.wr2' (.int .i64 (itm e).1) (.int .i64 (itm e).2)
  refine ⟨?_, ?_⟩
  · refine ⟨_, _, M.look he, _, _, _, e1, ?_⟩
    rw [IntWalk.i64_in (CI (e :: S) (itm e) - 1) (by omega), hc2]
    exact ⟨w2, e2, _, (b2.cell 0).trans rfl, _, by rw [add_g]; exact (b2.cell 1).trans rfl, r1, r2, r3, r4, fin⟩
  · refine ⟨_, _, _, e1, _, _, m1.look he, ?_⟩
    rw [IntWalk.i64_in (CI (e :: S) (itm e) - 1) (by omega), hc2]
    exact ⟨w2, e2, _, (b2.cell 0).trans rfl, _, by rw [add_g]; exact (b2.cell 1).trans rfl, r1, r2, r3, r4, fin⟩
theorem heapOut_ok {A : Option Addr} {l c : Nat} {al : List HAct} (h : RowAt W.heap.size 3 (ActQ W) A al) (hl : al.length = l) (hc : l ≤ c) : Ret Try.prog 4 [.slice A l c] W (Done W) := by
  apply S4_calls
  refine (shown_ok _).use ?_
  rintro v w1 ⟨rfl, f1⟩
  refine ⟨_, rfl, ?_⟩
  refine (new_ok w1 f1.size).use ?_
  rintro v w2 ⟨hp, rfl, h2, f2⟩
  refine ⟨_, rfl, cF rfl ?_⟩
  have gg : Bel W.heap.size W w2 := f1.bel0.trans' f2.bel0
  have a0 : Fr none1 w2 (w2.alloc (.map #[] 0)) := Fr.alloc _ _
  have m2 : ItemsIn (w2.alloc (.map #[] 0)) w2.heap.size 0 [] := ⟨_, MapAt.made w2 Try.prog 32 3, fun p _ => rfl⟩
  have hm0 := gg.size
  show Calls Try.prog 12 ⟨[.slice A l c]⟩ ((w2.alloc (.map #[] 0)).alloc (.cells ⟨it2 (0, 0)⟩ 32)) _
  have a1 : Fr none1 (w2.alloc (.map #[] 0)) ((w2.alloc (.map #[] 0)).alloc (.cells ⟨it2 (0, 0)⟩ 32)) := Fr.alloc _ _
  have L1 := Blk.new (w2.alloc (.map #[] 0)) 32 (it2 (0, 0))
  have b2 : OutI W.heap.size ((w2.alloc (.map #[] 0)).alloc (.cells ⟨it2 (0, 0)⟩ 32)) hp w2.heap.size (w2.alloc (.map #[] 0)).heap.size 0 0 [] (0, 0) :=
    ⟨(h2.fr0 a0).fr0 a1, m2.fr a1 (fun h => h), L1, hm0, Nat.le_trans hm0 a0.size, by simp⟩
  have g2 := (gg.trans' a0.bel0).trans' a1.bel0
  generalize hla : (w2.alloc (.map #[] 0)).heap.size = la at b2 ⊢
  generalize w2.heap.size = m at b2 ⊢
  generalize (w2.alloc (.map #[] 0)).alloc (.cells ⟨it2 (0, 0)⟩ 32) = w2 at b2 g2 ⊢
  refine (few_ok h hl hc).use ?_
  rintro v w2 ⟨rfl, n1, d1, bs, rfl, hbl, hb300, hrow⟩
  refine ⟨_, _, _, rfl, ?_⟩
  refine ⟨fun s w' => ∃ (n k mm : Nat) (S : List En) (last : It), s.2.2.1 = (n : Int) ∧ n ≤ n1 ∧ k ≤ n ∧ mm ≤ n ∧ s.1 = (S.length : Int) ∧ Bel W.heap.size W w' ∧ OutI W.heap.size w' hp m la mm k S last ∧ (s.2.1 = true → ∀ e ∈ S, last.1 ≤ e.1), fun s _ => n1 - s.2.2.1.toNat, ⟨0, 0, 0, [], (0, 0), rfl, Nat.zero_le _, Nat.le_refl _, Nat.le_refl _, rfl, g2, b2, fun h => by cases h⟩, ?_⟩
  rintro J ⟨len, popped, i, ⟨⟩⟩ w3 ⟨n, k, mm, S, last, hi, hn, hk, hmm, hlen, g3, b3, hpop⟩
  dsimp only at hi hlen hpop ⊢
  subst hi hlen
  refine cD (fun hlt => ?_) (fun hlt => ?_)
  · have hx : bs[n]? = some bs[n] := List.getElem?_eq_getElem (by omega)
    obtain ⟨a, ha, hab, hq⟩ := hrow n _ hx
    obtain ⟨q1, q2, q3, q4, q5⟩ := hq.fr (Nat.le_refl _) (by rw [add_block]; exact hab) g3
    refine ⟨a, ha, by omega, by omega, _, by rw [Int.toNat_natCast]; exact q1, _, by rw [Int.toNat_natCast]; exact q2, _, by rw [Int.toNat_natCast]; exact q3, ?_⟩
    obtain ⟨p1, p2, p3, p4, p5, p6, b4, f4⟩ := cp3 w3 34 (.bool false) (.int .i64 0) (.int .i64 0) (.bool bs[n].1) (.int .i64 bs[n].2.1) (.int .i64 bs[n].2.2)
    refine ⟨p1, p2, p3, p4, p5, p6, ?_⟩
    generalize World.setCell _ _ _ = w4 at b4 f4 ⊢
    generalize w3.heap.size = p at b4 ⊢
    have g4 := g3.trans' f4.bel0
    obtain ⟨H4, M4, L4, hBm, hBl, hI⟩ := b3.fr0 f4
    have hlen4 := H4.2.2.2.2
    refine ⟨_, (b4.cell 0).trans rfl, ?_⟩
    refine cB (fun hg => ?_) (fun hg => ?_)
    · refine ⟨_, (b4.cell 1).trans rfl, _, (b4.cell 2).trans rfl, ?_⟩
      refine (push_ok H4 g4.size (by omega) (bs[n].2.1, bs[n].2.2)).use ?_
      rintro v w5 ⟨rfl, H5, f5⟩
      have d : Fr none1 w5 w5.drew := Fr.drew w5
      have b5 := (b4.fr f5 (fun hk => hpF_no (ts := [34]) (by decide) (by decide) _ hk (b4.hasTy (by decide)))).fr d (fun h => h)
      have M5 := (M4.fr f5 fun hk => M4.notTy [52, 56] hk.2).fr d (fun h => h)
      have L5 := (L4.fr f5 (fun hk => hpF_no (ts := [32]) (by decide) (by decide) _ hk (L4.hasTy (by decide)))).fr d (fun h => h)
      have H5' := H5.fr0 d
      have hok : okP (bs[n].2.1, bs[n].2.2) := ⟨q4, q5⟩
      have hcI := CI_le S (bs[n].2.1, bs[n].2.2)
      refine ⟨rfl, _, (b5.cell 1).trans rfl, _, (b5.cell 2).trans rfl, ?_⟩
      obtain ⟨s, w6, e1, m6, f6, w7, e2, m7, f7⟩ := M5.entry (S' := insE (bs[n].2.1, bs[n].2.2, (k : Int)) S) hok (by omega) (by rw [insE_len]; omega) (fun q hq => by rw [CI_ins, if_neg (fun h => hq h.symm)]; omega)
      have hc2 : CI S (bs[n].2.1, bs[n].2.2) + 1 = CI (insE (bs[n].2.1, bs[n].2.2, (k : Int)) S) (bs[n].2.1, bs[n].2.2) := by rw [CI_ins, if_pos (show itm (bs[n].2.1, bs[n].2.2, (k : Int)) = (bs[n].2.1, bs[n].2.2) from rfl)]
      rw [IntWalk.i64_in ((S.length : Int) + 1) (by omega), IntWalk.i64_in ((n : Int) + 1) (by omega)]
      have fin : (∃ (n' k mm : Nat) (S' : List En) (last : It), (n : Int) + 1 = (n' : Int) ∧ n' ≤ n1 ∧ k ≤ n' ∧ mm ≤ n' ∧ (S.length : Int) + 1 = (S'.length : Int) ∧ Bel W.heap.size W w7 ∧ OutI W.heap.size w7 hp m la mm k S' last ∧ (false = true → ∀ e ∈ S', last.1 ≤ e.1)) ∧ n1 - ((n : Int) + 1).toNat < n1 - (n : Int).toNat := by
        refine ⟨⟨n + 1, k + 1, mm + 1, _, last, rfl, by omega, by omega, by omega, by rw [insE_len]; omega, ((g4.trans' (hpF_bel f5)).trans' d.bel0).trans' (f7.bel fun q hq => by subst hq; exact hBm), ⟨H5'.frT f7 fun q _ hq => by subst hq; exact M5.notTy _, m7, L5.fr f7 (fun h => by subst h; exact M5.notTy [32] (L5.hasTy (by decide))), hBm, hBl, fun y hy => ?_⟩, fun h => by cases h⟩, by omega⟩
        rcases List.mem_cons.1 ((insE_perm _ S).mem_iff.1 hy) with rfl | hy
        · exact hok
        · exact hI y hy
      refine ⟨?_, ?_⟩
      · refine ⟨_, _, M5.look hok, _, _, _, e1, ?_⟩
        rw [IntWalk.i64_in (CI S (bs[n].2.1, bs[n].2.2) + 1) (by omega), hc2]
        exact ⟨w7, e2, fin⟩
      · refine ⟨_, _, _, e1, _, _, m6.look hok, ?_⟩
        rw [IntWalk.i64_in (CI S (bs[n].2.1, bs[n].2.2) + 1) (by omega), hc2]
        exact ⟨w7, e2, fin⟩
    · refine (pop_ok H4 (by omega)).use ?_
      rintro v w5 ⟨rfl, H5, f5⟩
      have M5 := M4.fr f5 fun hk => M4.notTy [52, 56] hk.2
      have L5 := L4.fr f5 (fun hk => hpF_no (ts := [32]) (by decide) (by decide) _ hk (L4.hasTy (by decide)))
      obtain ⟨r1, r2, r3, r4, b6, f6⟩ := cp2 w5 32 (.int .i64 0) (.int .i64 0) (.int .i64 (hd S).1) (.int .i64 (hd S).2)
      refine ⟨_, _, _, rfl, r1, r2, r3, r4, ?_⟩
      have hxl : w5.heap.size ≠ la := fun e => by have := L5.lt; omega
      generalize World.setCell _ _ _ = w6 at b6 f6 ⊢
      generalize w5.heap.size = x at b6 hxl ⊢
      have H6 := H5.fr0 f6
      have M6 := M5.fr f6 (fun h => h)
      have L6 := L5.fr f6 (fun h => h)
      have g6 := g4.trans' ((hpF_bel f5).trans' f6.bel0)
      have e0 : (!S.isEmpty) = decide ((0 : Int) < (S.length : Int)) := by cases S <;> simp
      refine cF (by rw [e0]; simp) ?_
      cases S with
      | nil =>
        refine cT rfl ?_
        rw [IntWalk.i64_in ((n : Int) + 1) (by omega)]
        exact ⟨⟨n + 1, k, mm, [], last, rfl, by omega, by omega, by omega, rfl, g6, ⟨H6, M6, L6, hBm, hBl, hI⟩, fun _ e he => by simp at he⟩, by dsimp only; omega⟩
      | cons e S =>
        have he : okP (itm e) := hI e (by simp)
        have hsrt := H4.2.2.1
        have hc0 := CI_le S (itm e)
        simp only [List.length_cons] at hlen4
        refine cF rfl ⟨_, (b6.cell 0).trans rfl, _, by rw [add_g]; exact (b6.cell 1).trans rfl, _, _, M6.look he, ?_⟩
        refine cF (by
          show decide (CI (e :: S) (itm e) < 1) = false
          rw [CI_cons, if_pos rfl, decide_eq_false]
          omega) ?_
        have walk : S4_k6 true (some ⟨hp, 0, none⟩) (some m) ((e :: S).length : Int) ⟨la, 0, none⟩ ⟨x, 0, none⟩ A n1 d1 (n1 : Int) (n : Int) false w6 (Done W) (fun s' w'' => (∃ (n k mm : Nat) (S : List En) (last : It), s'.2.2.1 = (n : Int) ∧ n ≤ n1 ∧ k ≤ n ∧ mm ≤ n ∧ s'.1 = (S.length : Int) ∧ Bel W.heap.size W w'' ∧ OutI W.heap.size w'' hp m la mm k S last ∧ (s'.2.1 = true → ∀ e ∈ S, last.1 ≤ e.1)) ∧ n1 - s'.2.2.1.toNat < n1 - (n : Int).toNat) := by
          refine cF rfl ?_
          obtain ⟨F, hF1, hF2⟩ := M6
          obtain ⟨w7, cnt, hrun, hr, f7⟩ := hF1.range K32 U40
          refine ⟨w7, hrun, ?_⟩
          have hml := hF1.lt
          have hit : w6.heap.size ≤ w6.heap.size := Nat.le_refl _
          generalize hite : w6.heap.size = it at hr ⊢
          rw [hite] at hit
          refine ⟨fun _ w' => ∃ cnt, RangeAt w' Try.prog 32 3 m it mm F cnt ∧ Fr none1 w6 w', fun _ w' => w'.rangeLeft m it, ⟨cnt, hr, f7⟩, ?_⟩
          rintro J ⟨⟩ w8 ⟨cnt8, hr8, f8⟩
          rcases hr8.next K32 U3' 0 with hrun8 | ⟨key, kl, w9, cnt9, hk9, hkl, hrun9, hr9, hc9, f9, hent⟩
          · refine .inl ⟨w8, hrun8, ?_⟩
            have M8 : ItemsIn w8 m mm (e :: S) := ⟨F, hr8.map, hF2⟩
            refine out_gone (H6.fr0 f8) (L6.fr f8 (fun h => h)) hBm hBl (fun y hy => hI y (List.mem_cons_of_mem _ hy)) M8 he (b6.fr f8 (fun h => h)) hxl (by omega) (by omega) (by omega) fun w9 g9 o9 => ?_
            exact ⟨⟨n + 1, k, mm + 1, S, itm e, rfl, by omega, by omega, by omega, rfl, (g6.trans' f8.bel0).trans' g9, o9, fun _ y hy => by
              have := (List.pairwise_cons.1 hsrt).1 y hy
              unfold lt at this; unfold itm; simp only; omega⟩, by dsimp only; omega⟩
          · obtain ⟨pp, hpp, rfl, rfl⟩ := kp_inv hk9
            rw [hF2 pp hpp] at hrun9 hent
            have f69 : Fr none1 w6 w9 := f8.trans f9 fun q hq e => by subst e; have := hit; omega
            refine .inr ⟨pp.1, pp.2, CI (e :: S) pp, w9, hrun9, pp.1, pp.2, CI (e :: S) pp, w9, hent, ?_⟩
            obtain ⟨s1, s2, s3, s4, b10, f10⟩ := cp2 w9 32 (.int .i64 0) (.int .i64 0) (.int .i64 pp.1) (.int .i64 pp.2)
            refine ⟨s1, s2, s3, s4, ?_⟩
            generalize World.setCell _ _ _ = w10 at b10 f10 ⊢
            generalize w9.heap.size = y at b10 ⊢
            have hr10 := hr9.fr f10 (fun h => h) (fun h => h)
            have fin : S4_k11 true (some ⟨hp, 0, none⟩) (some m) ((e :: S).length : Int) ⟨la, 0, none⟩ ⟨x, 0, none⟩ A n1 d1 (n1 : Int) (n : Int) ⟨it, 0, none⟩ false w10 (Done W) (fun s' w'' => (∃ (n k mm : Nat) (S : List En) (last : It), s'.2.2.1 = (n : Int) ∧ n ≤ n1 ∧ k ≤ n ∧ mm ≤ n ∧ s'.1 = (S.length : Int) ∧ Bel W.heap.size W w'' ∧ OutI W.heap.size w'' hp m la mm k S last ∧ (s'.2.1 = true → ∀ e ∈ S, last.1 ≤ e.1)) ∧ n1 - s'.2.2.1.toNat < n1 - (n : Int).toNat) (fun s' w'' => (∃ cnt, RangeAt w'' Try.prog 32 3 m it mm F cnt ∧ Fr none1 w6 w'') ∧ w''.rangeLeft m it < w8.rangeLeft m it) := by
              refine cF rfl ⟨⟨cnt9, hr10, f69.trans' f10⟩, ?_⟩
              rw [hr10.left_eq, hr8.left_eq]; exact hc9
            refine cD (fun hpos => ?_) (fun _ => fin)
            have hmin := CI_min hsrt hpos
            have b610 := (b6.fr f69 (fun h => h)).fr f10 (fun h => h)
            refine ⟨pp.1, (b10.cell 0).trans rfl, _, (b610.cell 0).trans rfl, ?_⟩
            rw [decide_eq_false (show ¬ pp.1 < (hd (e :: S)).1 by show ¬ pp.1 < e.1; omega)]
            exact fin
        refine cB (fun hpp => ?_) (fun _ => walk)
        have hle := hpop hpp e (by simp)
        refine ⟨_, (b6.cell 0).trans rfl, _, (L6.cell 0).trans rfl, ?_⟩
        rw [decide_eq_false (show ¬ (hd (e :: S)).1 < last.1 by show ¬ e.1 < last.1; omega)]
        exact walk
  · refine cT rfl ?_
    refine (len_ok b3.1).use ?_
    rintro v w4 ⟨rfl, rfl⟩
    exact ⟨_, rfl, by simp, g3.top⟩
end
end Go.Proofs
