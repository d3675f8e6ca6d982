import Derived.Test.YtgcoecbbgipgpaaHeapD
import Derived.Laws.StructEq
import Derived.Laws.Cover2
set_option linter.unusedVariables false
namespace Go.Proofs
open Go Go.Eng
def insE (x : En) : List En → List En
  | [] => [x]
  | e :: S => if e.1 ≤ x.1 then e :: insE x S else x :: e :: S
theorem insE_perm (x : En) : ∀ S, (insE x S).Perm (x :: S)
  | [] => List.Perm.refl _
  | e :: S => by
    unfold insE
    split
    · exact ((insE_perm x S).cons e).trans (List.Perm.swap x e S)
    · exact List.Perm.refl _
theorem insE_srt (x : En) : ∀ S, Srt S → (∀ e ∈ S, e.2.2 < x.2.2) → Srt (insE x S)
  | [], _, _ => by simp [insE, Srt]
  | e :: S, h, hs => by
    obtain ⟨h1, h2⟩ := List.pairwise_cons.1 h
    unfold insE
    split
    · rename_i hk
      refine List.pairwise_cons.2 ⟨fun y hy => ?_, insE_srt x S h2 fun y hy => hs y (List.mem_cons_of_mem _ hy)⟩
      rcases List.mem_cons.1 ((insE_perm x S).mem_iff.1 hy) with rfl | hy
      · have := hs e (by simp); unfold lt; omega
      · exact h1 y hy
    · rename_i hk
      refine List.pairwise_cons.2 ⟨fun y hy => ?_, h⟩
      rcases List.mem_cons.1 hy with rfl | hy
      · unfold lt; omega
      · have := h1 y hy; unfold lt at *; omega
theorem insE_len (x : En) (S : List En) : (insE x S).length = S.length + 1 := by rw [(insE_perm x S).length_eq]; rfl
theorem g_app {L : List En} {e : En} {j : Nat} (h : j < L.length) : g (L ++ [e]) j = g L j := by
  rw [g_eq, g_eq, List.getElem?_append_left h]
theorem push_ok {B : Nat} {w : World} {hp : Nat} {S : List En} {nx : Nat} (h : HeapIs B w hp S nx) (hB : B ≤ w.heap.size) (hnx : nx ≤ 50000) (x : Int × Int) : Ret Try.prog 15 [.pointer (some ⟨hp, 0, none⟩), .agg ⟨it2 x⟩] w fun v w' => v = .tuple ⟨[]⟩ ∧ HeapIs B w' hp (insE (x.1, x.2, (nx : Int)) S) (nx + 1) ∧ Fr (hpF B w) w w' := by
  apply S15_calls
  have f0 : Fr none1 w (w.alloc (.cells ⟨it2 x⟩ 32)) := Fr.alloc _ _
  have b0 := Blk.new w 32 (it2 x)
  refine cF rfl ⟨_, rfl, _, rfl, ?_⟩
  have d : Fr none1 (w.alloc (.cells ⟨it2 x⟩ 32)) (w.alloc (.cells ⟨it2 x⟩ 32)).drew := Fr.drew _
  have b1 := b0.fr d (fun h => h)
  have f1 := f0.trans' d
  have h1 := h.fr0 f1
  show ∃ t11_0, World.cell? (w.alloc (.cells ⟨it2 x⟩ 32)).drew _ = _ ∧ _
  have hB1 := Nat.le_trans hB f1.size
  have b1c0 := b1.cell 0
  have b1c1 := b1.cell 1
  refine ⟨x.1, b1c0.trans rfl, x.2, by rw [add_g]; exact b1c1.trans rfl, ?_⟩
  show ∃ t15, World.cell? (w.alloc (.cells ⟨it2 x⟩ 32)).drew _ = _ ∧ _
  obtain ⟨hb, ⟨A, c, L, hraw, hho, hperm⟩, hsrt, hseq, hlen⟩ := h1
  have hll := hperm.length_eq
  refine ⟨(nx : Int), by rw [add_g]; exact (hraw.1.cell 1).trans rfl, A, _, c, (hraw.1.cell 0).trans rfl, ?_⟩
  show ∃ (t18_a : Option Addr) (t18_l t18_c : Nat) (w_ : World), (Builtin.append_ #[49, 49] 49 ⟨[(.slice A L.length c), (.slice (some ⟨(w.alloc (.cells ⟨it2 x⟩ 32)).drew.heap.size, 0, none⟩) 1 1)]⟩).run Try.prog ((w.alloc (.cells ⟨it2 x⟩ 32)).drew.alloc (.cells ⟨ec (x.1, x.2, (nx : Int))⟩ 56)) = _ ∧ _
  generalize (w.alloc (.cells ⟨it2 x⟩ 32)).drew = w1 at hraw hb f1 hB1 ⊢
  have a2 : Fr none1 w1 (w1.alloc (.cells ⟨ec (x.1, x.2, (nx : Int))⟩ 56)) := Fr.alloc _ _
  have raw2 := hraw.up0 a2
  have lit := Own.lit w1 56 3 1 (ec (x.1, x.2, (nx : Int))) rfl (by simp [maxLen])
  obtain ⟨A3, c3, w3, r3, o3, f3, g3⟩ := appB (ty := 49) (m := 1) (c2 := 1) E49 raw2.2 (Nat.le_trans hB1 a2.size) rfl lit.rd (ec_one _) (by omega) (by simp only [maxLen]; omega)
  have k3 := raw2.1.fr f3 (fun ⟨a, ha, e⟩ => raw2.2.ne_blk raw2.1 (by decide) a ha e)
  refine ⟨A3, _, c3, w3, r3, _, rfl, k3.has 0 (by simp), k3.free 0, ?_⟩
  have hs : Fr (fun k => k = hp) w3 (w3.setCell ⟨hp, 0, none⟩ (.slice A3 (L.length + 1) c3)) := Fr.setCell (F := fun k => k = hp) w3 rfl _
  have k4 := k3.set 0 (.slice A3 (L.length + 1) c3)
  have o4 := o3.fr1 hs (fun a ha e => o3.ne_blk k3 (by decide) a ha e)
  refine ⟨_, rfl, (nx : Int), by rw [add_g]; exact (k4.cell 1).trans rfl, _, rfl, ⟨_, by rw [add_g]; exact (k4.cell 1).trans rfl⟩, by rw [add_g]; exact k4.free 1, ?_⟩
  have ew : IntKind.u64.wrap ((nx : Int) + 1) = ((nx + 1 : Nat) : Int) := by
    unfold IntKind.wrap; simp [IntKind.bits, IntKind.signed]; omega
  rw [ew]
  have hs2 : Fr (fun k => k = hp) (w3.setCell ⟨hp, 0, none⟩ (.slice A3 (L.length + 1) c3)) ((w3.setCell ⟨hp, 0, none⟩ (.slice A3 (L.length + 1) c3)).setCell ((⟨hp, 0, none⟩ : Addr).add 1) (.int .u64 ((nx + 1 : Nat) : Int))) := Fr.setCell (F := fun k => k = hp) _ (by rw [add_g]) _
  have k5 : Blk ((w3.setCell ⟨hp, 0, none⟩ (.slice A3 (L.length + 1) c3)).setCell ((⟨hp, 0, none⟩ : Addr).add 1) (.int .u64 ((nx + 1 : Nat) : Int))) hp 52 [.slice A3 (L.length + 1) c3, .int .u64 ((nx + 1 : Nat) : Int)] := k4.set 1 _
  have o5 := o4.fr1 hs2 (fun a ha e => o4.ne_blk k4 (by decide) a ha e)
  have m5 : w3.heap.size ≤ ((w3.setCell ⟨hp, 0, none⟩ (.slice A3 (L.length + 1) c3)).setCell ((⟨hp, 0, none⟩ : Addr).add 1) (.int .u64 ((nx + 1 : Nat) : Int))).heap.size := Nat.le_trans hs.size hs2.size
  generalize (w3.setCell ⟨hp, 0, none⟩ (.slice A3 (L.length + 1) c3)).setCell ((⟨hp, 0, none⟩ : Addr).add 1) (.int .u64 ((nx + 1 : Nat) : Int)) = w5 at k5 o5 hs2 m5 ⊢
  refine ⟨_, rfl, A3, _, c3, (k5.cell 0).trans rfl, ?_⟩
  have hM : (L ++ [((x.1, x.2, (nx : Int)) : En)]).length = L.length + 1 := by simp
  have raw5 : Raw w5 (bw B w5) hp A3 c3 ((nx + 1 : Nat) : Int) (L ++ [((x.1, x.2, (nx : Int)) : En)]) := by
    refine ⟨by rw [hM]; exact k5, ?_⟩
    rw [hM, rws_append, rws_one]
    exact o5.mono fun k hk h => ⟨h.1, hk⟩
  rw [IntWalk.i64_in (((L.length + 1 : Nat) : Int) - 1) (by omega), show (((L.length + 1 : Nat) : Int) - 1) = (L.length : Int) by omega]
  refine (up_ok raw5 (i := L.length) (by rw [hM]; omega) (by rw [hM]; omega) (fun j j0 jl jne => ?_) (fun j j0 jl jp i0 => by rw [hM] at jl; omega)).use ?_
  · rw [hM] at jl
    rw [g_app (by omega), g_app (by omega)]
    exact hho j j0 (by omega)
  rintro v w6 ⟨rfl, L6, perm6, ho6, raw6, f6⟩
  have p6 : L6.Perm (insE (x.1, x.2, (nx : Int)) S) := by
    refine perm6.trans (List.perm_append_comm.trans ?_)
    exact (hperm.cons _).trans (insE_perm _ S).symm
  refine ⟨rfl, rfl, ⟨bw_mono (Nat.le_trans a2.size (Nat.le_trans f3.size (Nat.le_trans m5 f6.size))) hb, ⟨A3, c3, L6, ⟨raw6.1, raw6.2.mono fun k hk h => ⟨h.1, hk⟩⟩, ho6, p6⟩, insE_srt _ S hsrt hseq, fun e he => ?_, by rw [insE_len]; omega⟩, ?_⟩
  · rcases List.mem_cons.1 ((insE_perm _ S).mem_iff.1 he) with rfl | he
    · show (nx : Int) < ((nx + 1 : Nat) : Int); omega
    · have := hseq e he; omega
  · -- what was written
    have back : ∀ k, k < w.heap.size → bw B w1 k ∧ hasTy w1 [52, 56] k → hpF B w k := fun k hk h => ⟨⟨h.1.1, hk⟩, (f1.hasTy hk (fun h => h)).1 h.2⟩
    have hrow : ∀ k, k < w1.heap.size → ownAt A k → bw B w1 k ∧ hasTy w1 [52, 56] k := fun k _ ⟨a, ha, e⟩ => by
      subst e; obtain ⟨cur, hc⟩ := hraw.2.obj a ha; exact ⟨(hraw.2.has a ha).1, cur, 56, hc, by decide⟩
    have hself : bw B w1 hp ∧ hasTy w1 [52, 56] hp := ⟨hb, hraw.1.hasTy (by decide)⟩
    have q1 : Fr (fun k => bw B w1 k ∧ hasTy w1 [52, 56] k) w1 w3 := (a2.mono fun _ _ h => h.elim).trans f3 fun k hk h => hrow k hk h
    -- the new row is either the old one or new
    have hnew : ∀ k, k < w1.heap.size → ownAt A3 k → bw B w1 k ∧ hasTy w1 [52, 56] k := by
      rintro k hk ⟨a, ha, rfl⟩
      obtain ⟨cur, hc⟩ := o3.obj a ha
      by_cases hF : bw B w1 a.block ∧ hasTy w1 [52, 56] a.block
      · exact hF
      · have := q1.block a.block hk hF
        rw [hc] at this
        exact ⟨⟨(o3.has a ha).1.1, hk⟩, cur, 56, this.symm, by decide⟩
    have q5 : Fr (fun k => bw B w1 k ∧ hasTy w1 [52, 56] k) w1 w5 := (q1.trans hs fun k hk e => by subst e; exact hself).trans hs2 fun k hk e => by subst e; exact hself
    have q6 := q5.trans f6 hnew
    exact (f1.mono fun _ _ h => h.elim).trans q6 back
/-! ### A nil heap -/
theorem nil_push (x : Int × Int) (w : World) : Ret Try.prog 15 [.pointer none, .agg ⟨it2 x⟩] w fun v w' => v = .tuple ⟨[]⟩ ∧ Fr none1 w w' := by
  apply S15_calls
  exact cT rfl ⟨rfl, Fr.alloc _ _⟩
theorem nil_len (w : World) : Ret Try.prog 19 [.pointer none] w fun v w' => v = .int .i64 0 ∧ w' = w := by
  apply S19_calls
  exact cT rfl ⟨rfl, rfl⟩
theorem nil_peek (w : World) : Ret Try.prog 17 [.pointer none] w fun v w' => v = topV [] ∧ Fr none1 w w' := by
  apply S17_calls
  have f0 : Fr none1 w (w.alloc (.cells ⟨[.int .i64 0, .int .i64 0]⟩ 32)) := Fr.alloc _ _
  have b0 := Blk.new w 32 [.int .i64 0, .int .i64 0]
  refine (nil_len _).use ?_
  rintro v w1 ⟨rfl, rfl⟩
  obtain ⟨p1, p2, p3, p4, b1, f1⟩ := b0.wr2 (.int .i64 0) (.int .i64 0)
  exact ⟨_, rfl, cT rfl ⟨p1, p2, p3, p4, 0, (b1.cell 0).trans rfl, 0, (b1.cell 1).trans rfl, rfl, f0.trans f1 fun k hk e => by subst e; omega⟩⟩
theorem nil_pop (w : World) : Ret Try.prog 13 [.pointer none] w fun v w' => v = topV [] ∧ Fr none1 w w' := by
  apply S13_calls
  have f0 : Fr none1 w (w.alloc (.cells ⟨[.int .i64 0, .int .i64 0]⟩ 32)) := Fr.alloc _ _
  have b0 := Blk.new w 32 [.int .i64 0, .int .i64 0]
  refine (nil_peek _).use ?_
  rintro v w1 ⟨rfl, f1⟩
  have b1 := b0.fr f1 (fun h => h)
  have f01 := f0.trans' f1
  obtain ⟨p1, p2, p3, p4, b2, f2⟩ := cp2 w1 32 (.int .i64 0) (.int .i64 0) (.int .i64 0) (.int .i64 0)
  refine ⟨_, _, _, rfl, p1, p2, p3, p4, ?_⟩
  refine cT rfl ?_
  show ∃ t14_0, World.cell? (((w1.alloc (.cells ⟨[.int .i64 0, .int .i64 0]⟩ 32)).setCell ⟨w1.heap.size, 0, none⟩ (.int .i64 0)).setCell ⟨w1.heap.size, 1, none⟩ (.int .i64 0)) _ = _ ∧ _
  have b1' := b1.fr f2 (fun h => h)
  obtain ⟨r1, r2, r3, r4, b3, f3⟩ := b1'.wr2 (.int .i64 0) (.int .i64 0)
  exact ⟨0, (b2.cell 0).trans rfl, 0, (b2.cell 1).trans rfl, r1, r2, r3, r4, 0, (b3.cell 0).trans rfl, 0, (b3.cell 1).trans rfl, rfl, (f01.trans' f2).trans f3 fun k hk e => by subst e; omega⟩
/-! ### Items, compared -/
theorem eqI (a b c d : Int) (w : World) : (Op.equalIn 10000 32 (.agg #[.int .i64 a, .int .i64 b]) (.agg #[.int .i64 c, .int .i64 d])).run Try.prog w = .ok (a == c && b == d) w := by
  have u3 := Try.underlying3
  have a3 := Try.isAgg3
  have z3 := Try.sizeOf3
  have hS : Try.prog.underlying 32 = some (.struct (Try.prog.fieldsOf 32)) := by kernel_rfl
  have hp : Try.prog.stoodInHeld 32 = false := by kernel_rfl
  rw [show (10000 : Nat) = 9999 + 1 from rfl, run_equalIn_agg w 9999 32 _ _ hS hp]
  simp only [Program.fieldsOf, Try.underlying32]
  go_simp
  by_cases h1 : a = c <;> by_cases h2 : b = d <;> simp [h1, h2]
theorem item_eq (o1 o2 : Operand) (a c : Int × Int) (w : World) : (do eqGuard .eql 32 o1 o2 (.agg ⟨it2 a⟩) (.agg ⟨it2 c⟩); binOp .eql 32 (.agg ⟨it2 a⟩) (.agg ⟨it2 c⟩)).run Try.prog w = .ok (.bool (decide (a = c))) w := by
  obtain ⟨a, b⟩ := a
  obtain ⟨c, d⟩ := c
  show (do eqGuard .eql 32 o1 o2 (.agg #[(.int .i64 a), (.int .i64 b)]) (.agg #[(.int .i64 c), (.int .i64 d)]); binOp .eql 32 (.agg #[(.int .i64 a), (.int .i64 b)]) (.agg #[(.int .i64 c), (.int .i64 d)])).run Try.prog w = _
  rw [Sem.run_bind, run_eqGuard_agg w _ _ _ _ _ _ (by kernel_rfl)]
  simp only [Result.andThen]
  rw [run_eql_struct, eqI]
  simp only [Result.andThen]
  congr 2
  by_cases h1 : a = c <;> by_cases h2 : b = d <;> simp [h1, h2]
theorem item_ne (o1 o2 : Operand) (a c : Int × Int) (w : World) : (do eqGuard .neq 32 o1 o2 (.agg ⟨it2 a⟩) (.agg ⟨it2 c⟩); binOp .neq 32 (.agg ⟨it2 a⟩) (.agg ⟨it2 c⟩)).run Try.prog w = .ok (.bool (!decide (a = c))) w := by
  obtain ⟨a, b⟩ := a
  obtain ⟨c, d⟩ := c
  show (do eqGuard .neq 32 o1 o2 (.agg #[(.int .i64 a), (.int .i64 b)]) (.agg #[(.int .i64 c), (.int .i64 d)]); binOp .neq 32 (.agg #[(.int .i64 a), (.int .i64 b)]) (.agg #[(.int .i64 c), (.int .i64 d)])).run Try.prog w = _
  rw [Sem.run_bind, run_eqGuard_agg w _ _ _ _ _ _ (by kernel_rfl)]
  simp only [Result.andThen]
  rw [run_neq_struct, eqI]
  simp only [Result.andThen]
  congr 2
  by_cases h1 : a = c <;> by_cases h2 : b = d <;> simp [h1, h2]
end Go.Proofs
