import Derived.Test.YtmhjjhpgbafjpaaDoorEng2
set_option linter.unusedVariables false
namespace Go.Eng
open Go
section
variable {P : Program} {K : Value → Prop}

theorem binI_yld {op : BinOp} {k : IntKind} {a b : Int} (hs : isSh op = false) (h : binI op k a b K) : Yld P (binOp op 0 (.int k a) (.int k b)) K ∧ ∀ t, binOp op t (.int k a) (.int k b) = binOp op 0 (.int k a) (.int k b) := by
  cases op <;> simp [isSh] at hs <;> simp only [binI] at h <;> (try exact h.elim)
  case quo => exact ⟨⟨_, fun w => by simp [binOp, Op.intDiv, h.1], h.2⟩, fun t => by simp [binOp]⟩
  case rem => exact ⟨⟨_, fun w => by simp [binOp, Op.intDiv, h.1], h.2⟩, fun t => by simp [binOp]⟩
  case and => exact ⟨⟨_, fun w => by simp [binOp, Op.intBits, bitsI], h⟩, fun t => by simp [binOp]⟩
  case or => exact ⟨⟨_, fun w => by simp [binOp, Op.intBits, bitsI], h⟩, fun t => by simp [binOp]⟩
  case xor => exact ⟨⟨_, fun w => by simp [binOp, Op.intBits, bitsI], h⟩, fun t => by simp [binOp]⟩
  case andNot => exact ⟨⟨_, fun w => by simp [binOp, Op.intBits, bitsI], h⟩, fun t => by simp [binOp]⟩
  case eql => exact ⟨⟨_, fun w => by simp [binOp, Op.intCmp]; rfl, h⟩, fun t => by simp [binOp]⟩
  case neq => exact ⟨⟨_, fun w => by simp [binOp, Op.intCmp]; rfl, h⟩, fun t => by simp [binOp]⟩
  all_goals exact ⟨⟨_, fun w => by simp [binOp, Op.intArith, Op.intCmp], h⟩, fun t => by simp [binOp]⟩
theorem shI_yld {op : BinOp} {k k' : IntKind} {a b : Int} {t : TypeId} (h : shI op k a b K) : Yld P (binOp op t (.int k a) (.int k' b)) K := by
  cases op <;> simp only [shI] at h <;> (try exact h.elim)
  case shl => exact ⟨_, fun w => by simp [binOp, Op.shift, Int.not_lt.2 h.1], h.2⟩
  case shr => exact ⟨_, fun w => by simp [binOp, Op.shift, Int.not_lt.2 h.1], h.2⟩
theorem binS_yld {op : BinOp} {a b : ByteArray} {t : TypeId} (h : binS op a b K) : Yld P (binOp op t (.string a) (.string b)) K := by
  have e : (a.toList == b.toList) = decide (a = b) := by
    rw [Bool.eq_iff_iff]; simp only [beq_iff_eq, decide_eq_true_eq, ByteArray.toList_eq]
    constructor
    · intro h; obtain ⟨x⟩ := a; obtain ⟨y⟩ := b; exact congrArg ByteArray.mk (Array.toList_inj.1 h)
    · rintro rfl; rfl
  cases op <;> simp only [binS] at h <;> (try exact h.elim)
  case add => exact ⟨_, fun w => run_string_add_sum w a b h.1, h.2⟩
  case eql => exact ⟨_, fun w => by rw [binOp_string_eql, e]; rfl, h⟩
  case neq => exact ⟨_, fun w => by rw [binOp_string_neq, e]; rfl, h⟩
theorem binB_yld {op : BinOp} {a b : Bool} {t : TypeId} (ht : P.underlying t = some .bool) (h : binB op a b K) : Yld P (binOp op t (.bool a) (.bool b)) K := by
  cases op <;> simp only [binB] at h <;> (try exact h.elim)
  · exact ⟨_, fun w => run_eql_bool w t a b ht, h⟩
  · exact ⟨_, fun w => run_neq_bool w t a b ht, h⟩
theorem binN_ptr {op : BinOp} {p : Option Addr} {t e : TypeId} (ht : P.underlying t = some (.pointer e)) (h : binN op p.isNone K) : Yld P (binOp op t (.pointer p) (.pointer none)) K := by
  have ht' : P.underlying t = some (.pointer (P.pointee t)) := by simp [Program.pointee, ht]
  cases op <;> simp only [binN] at h <;> (try exact h.elim)
  · exact ⟨_, fun w => run_eql_pointer_nil w t p ht', h⟩
  · exact ⟨_, fun w => run_neq_pointer_nil w t p ht', h⟩
theorem run_equalIn_nil {w : World} (d : Nat) {t e : TypeId} {p : Option Addr} {l c l' c' : Nat} (ht : P.underlying t = some (.slice e)) :
    (Op.equalIn (d + 1) t (.slice p l c) (.slice none l' c')).run P w = .ok p.isNone w := by
  cases p <;> simp [Op.equalIn, run_underlying ht]
theorem binN_slice {op : BinOp} {p : Option Addr} {l c l' c' : Nat} {t e : TypeId} (ht : P.underlying t = some (.slice e)) (h : binN op p.isNone K) : Yld P (binOp op t (.slice p l c) (.slice none l' c')) K := by
  have eqn : ∀ w, (Op.equal t (.slice p l c) (.slice none l' c')).run P w = .ok p.isNone w := fun w => run_equalIn_nil 9999 ht
  cases op <;> simp only [binN] at h <;> (try exact h.elim)
  · exact ⟨_, fun w => by simp only [binOp]; simp [eqn w], h⟩
  · exact ⟨_, fun w => by simp only [binOp]; simp [eqn w], h⟩
theorem binR_yld {op : BinOp} {t : TypeId} {x y : Operand} {a b : Value} (h : binR P op t a b K) : Yld P (do eqGuard op t x y a b; binOp op t a b) K := by
  have plain : ∀ {a b : Value}, Yld P (binOp op t a b) K → (∀ w, (eqGuard op t x y a b).run P w = .ok () w) → Yld P (do eqGuard op t x y a b; binOp op t a b) K := by
    rintro a b ⟨v, hv, hk⟩ hg
    exact ⟨v, fun w => by rw [Sem.run_bind, hg, Result.andThen_ok]; exact hv w, hk⟩
  unfold binR at h
  split at h
  · rename_i k a k' b
    refine plain ?_ (fun w => by unfold eqGuard; split <;> rfl)
    split at h
    · exact shI_yld h
    · rename_i hs
      split at h
      · unfold sameK at h
        split at h
        · rename_i e; subst e
          obtain ⟨h1, h2⟩ := binI_yld (P := P) hs h
          rw [h2 t]; exact h1
        · exact h.elim
      · exact h.elim
  · split at h
    · exact plain (binS_yld h) (fun w => by unfold eqGuard; split <;> rfl)
    · exact h.elim
  · split at h
    · exact plain (binB_yld ‹_› h) (fun w => by unfold eqGuard; split <;> rfl)
    · exact h.elim
  · split at h
    · exact plain (binN_ptr ‹_› h) (fun w => by unfold eqGuard; split <;> rfl)
    · exact h.elim
  · split at h
    · exact plain (binN_slice ‹_› h) (fun w => by unfold eqGuard; split <;> rfl)
    · exact h.elim
  · exact h.elim
theorem unR_yld {op : UnOp} {x : Value} (h : unR op x K) : Yld P (Op.unary op x) K := by
  unfold unR at h
  split at h
  · exact ⟨_, fun w => by simp [Op.unary], h⟩
  · exact ⟨_, fun w => by simp [Op.unary, Op.intArith], h⟩
  · exact ⟨_, fun w => by simp [Op.unary, Op.intBits, bitsI], h⟩
  · exact h.elim
theorem convR_yld {s d : TypeId} {x : Value} (h : convR P s d x K) : Yld P (convert s d x) K := by
  unfold convR at h
  split at h
  · rename_i hs
    split at h
    · rename_i hd
      exact ⟨_, fun w => by simp [convert, run_ul hs, run_ul hd, Conv.intToInt], h⟩
    · exact h.elim
  · exact h.elim
theorem pickR_out {c : Bool} {x y : Value} (h : pickR c x y K) : K (if c then x else y) := by
  unfold pickR at h
  split at h
  · cases c <;> simpa using h
  · cases c <;> simpa using h
theorem szR_nat {t : TypeId} {K : Nat → Prop} (h : szR P t K) : ∃ n, (∀ w, (sizeOf t).run P w = .ok n w) ∧ K n := by
  obtain ⟨i, hi, h⟩ := szR_out h
  exact ⟨_, run_sizeOf hi, h⟩
theorem fieldAddrR_yld {s : TypeId} {x : Value} {f : Nat} (h : fieldAddrR P s x f K) : Yld P (Instr.fieldAt s x f) K := by
  unfold fieldAddrR at h
  split at h
  · rename_i fs hs
    split at h
    · rename_i fl hf
      split at h
      · rename_i a
        obtain ⟨i, hi, h⟩ := szR_out h
        split at h
        · exact h.elim
        · rename_i n hn
          refine ⟨_, fun w => ?_, h⟩
          have h0 : ¬ (i.size = 0) := by omega
          simp [Instr.fieldAt, run_ul hs, hf, Instr.sureAddr, fieldPlace, run_sizeOf hi, h0]
      · exact h.elim
    · exact h.elim
  · exact h.elim
theorem run_isAgg_s {t : TypeId} {fs : Array Field} (h : P.underlying t = some (.struct fs)) (w : World) : (isAgg t).run P w = .ok true w := by simp [isAgg, run_ul h]
theorem run_isAgg_a {t n e : TypeId} (h : P.underlying t = some (.array n e)) (w : World) : (isAgg t).run P w = .ok true w := by simp [isAgg, run_ul h]
theorem run_isAgg_o {t : TypeId} {d : TypeDesc} (h : P.underlying t = some d) (h1 : ∀ fs, d ≠ .struct fs) (h2 : ∀ n e, d ≠ .array n e) (w : World) : (isAgg t).run P w = .ok false w := by
  cases d <;> simp_all [isAgg, run_ul]
theorem partR_yld {t : TypeId} {cs : Array Value} {off : Nat} (h : partR P t cs off K) : Yld P (part t cs off) K := by
  unfold partR at h
  split at h
  · rename_i fs hs
    obtain ⟨i, hi, h⟩ := szR_out h
    exact ⟨_, fun w => by simp [part, run_isAgg_s hs, run_sizeOf hi], h⟩
  · rename_i n e hs
    obtain ⟨i, hi, h⟩ := szR_out h
    exact ⟨_, fun w => by simp [part, run_isAgg_a hs, run_sizeOf hi], h⟩
  · rename_i d h1 h2 hd
    split at h
    · rename_i v hv
      exact ⟨_, fun w => by simp [part, run_isAgg_o hd h1 h2, hv], h⟩
    · exact h.elim
  · exact h.elim
theorem fieldR_yld {t : TypeId} {x : Value} {f : Nat} (h : fieldR P t x f K) : Yld P (Instr.field t x f) K := by
  unfold fieldR at h
  split at h
  · rename_i fs hs
    split at h
    · rename_i fl hf
      split at h
      · rename_i cs
        obtain ⟨v, hv, hk⟩ := partR_yld h
        exact ⟨v, fun w => by simp [Instr.field, run_ul hs, hf, asAgg, hv], hk⟩
      · exact h.elim
    · exact h.elim
  · exact h.elim
theorem indexAddrR_yld {t : TypeId} {x i : Value} (h : indexAddrR P t x i K) : Yld P (Instr.indexAt t x i) K := by
  unfold indexAddrR at h
  split at h
  · rename_i e ht
    split at h
    · obtain ⟨ad, rfl, h0, h1, h⟩ := h
      obtain ⟨i, hi, h⟩ := szR_out h
      refine ⟨_, fun w => ?_, h⟩
      simp [Instr.indexAt, asIntOf, run_ul ht, h0, h1, run_sizeOf hi]
    · exact h.elim
  · rename_i len e ht
    split at h
    · obtain ⟨h0, h1, h⟩ := h
      obtain ⟨i, hi, h⟩ := szR_out h
      refine ⟨_, fun w => ?_, h⟩
      simp [Instr.indexAt, asIntOf, run_ul ht, h0, h1, run_sizeOf hi, Instr.sureAddr]
    · exact h.elim
  · exact h.elim
theorem idxR_out {e : TypeId} {cs : Array Value} {sz : Nat} {n : Int} : ∀ {l : List Nat}, idxR P e cs sz n K l → ∀ j ∈ l, n = (j : Int) → partR P e cs (j * sz) K
  | [i], h, j, hj, hn => by simp at hj; subst hj; exact h hn
  | i :: k :: l, h, j, hj, hn => by
    rcases List.mem_cons.1 hj with rfl | hj
    · exact h.1 hn
    · exact idxR_out h.2 j hj hn
theorem indexR_yld {t : TypeId} {x i : Value} (h : indexR P t x i K) : Yld P (Instr.index t x i) K := by
  unfold indexR at h
  split at h
  · rename_i ht
    split at h
    · obtain ⟨b, h0, h1, h⟩ := h
      exact ⟨_, fun w => by simp [Instr.index, asIntOf, run_ul ht, h0, h1], h⟩
    · exact h.elim
  · rename_i len e ht
    split at h
    · rename_i cs k n
      obtain ⟨h0, h1, h⟩ := h
      obtain ⟨i, hi, h⟩ := szR_out h
      obtain ⟨v, hv, hk⟩ := partR_yld (idxR_out h n.toNat (List.mem_range.2 (by omega)) (by omega))
      exact ⟨v, fun w => by simp [Instr.index, asIntOf, run_ul ht, h0, h1, run_sizeOf hi, hv], hk⟩
    · exact h.elim
  · exact h.elim
theorem hiR_out {cap len : Nat} {hi : Option Value} {K : Nat → Prop} {code : BoundsCode} (h : hiR cap len hi K) :
    ∃ n, ((hi = none ∧ n = len) ∨ ∃ v, hi = some v ∧ ∀ w, (Instr.sliceBound v cap code).run P w = .ok n w) ∧ K n := by
  unfold hiR at h
  split at h
  · exact ⟨_, .inl ⟨rfl, rfl⟩, h⟩
  · obtain ⟨h0, h1, h⟩ := h
    exact ⟨_, .inr ⟨_, rfl, fun w => by simp [Instr.sliceBound, asIntOf, h0, h1]⟩, h⟩
  · exact h.elim
theorem loR_out {c : Nat} {lo : Option Value} {K : Nat → Prop} {code : BoundsCode} (h : loR c lo K) :
    ∃ n, ((lo = none ∧ n = 0) ∨ ∃ v, lo = some v ∧ ∀ w, (Instr.sliceBound v c code).run P w = .ok n w) ∧ K n := by
  unfold loR at h
  split at h
  · exact ⟨_, .inl ⟨rfl, rfl⟩, h⟩
  · obtain ⟨h0, h1, h⟩ := h
    exact ⟨_, .inr ⟨_, rfl, fun w => by simp [Instr.sliceBound, asIntOf, h0, h1]⟩, h⟩
  · exact h.elim
theorem sliceR_yld {t : TypeId} {x : Value} {lo hi mx : Option Value} (h : sliceR P t x lo hi mx K) : Yld P (Instr.sliceAt t x lo hi mx) K := by
  unfold sliceR at h
  split at h
  · rename_i ht
    split at h
    · obtain ⟨hh, h1, h⟩ := hiR_out (P := P) (code := .sliceAlen) h
      obtain ⟨ll, h2, h⟩ := loR_out (P := P) (code := .sliceB) h
      refine ⟨_, fun w => ?_, h⟩
      rcases h1 with ⟨rfl, rfl⟩ | ⟨v, rfl, h1⟩ <;> rcases h2 with ⟨rfl, rfl⟩ | ⟨u, rfl, h2⟩ <;> simp [Instr.sliceAt, Instr.slice, Instr.sliceBounds, run_ul ht, *]
    · exact h.elim
  · rename_i e ht
    split at h
    · split at h
      · obtain ⟨hh, h1, h⟩ := hiR_out (P := P) (code := .sliceAcap) h
        obtain ⟨ll, h2, h⟩ := loR_out (P := P) (code := .sliceB) h
        obtain ⟨i, hi, h⟩ := szR_out h
        refine ⟨_, fun w => ?_, h⟩
        rcases h1 with ⟨rfl, rfl⟩ | ⟨v, rfl, h1⟩ <;> rcases h2 with ⟨rfl, rfl⟩ | ⟨u, rfl, h2⟩ <;> simp [Instr.sliceAt, Instr.slice, Instr.sliceBounds, run_ul ht, run_sizeOf hi, slAddr, *]
      · obtain ⟨mm, h0, h⟩ := hiR_out (P := P) (code := .slice3Acap) h
        split at h
        · obtain ⟨hh, h1, h⟩ := hiR_out (P := P) (code := .slice3B) h
          obtain ⟨ll, h2, h⟩ := loR_out (P := P) (code := .slice3C) h
          obtain ⟨i, hi, h⟩ := szR_out h
          refine ⟨_, fun w => ?_, h⟩
          rcases h0 with ⟨h0, _⟩ | ⟨v0, h0, h0'⟩
          · cases h0
          · cases h0
            rcases h1 with ⟨h1, _⟩ | ⟨v, h1, h1'⟩
            · cases h1
            · cases h1
              rcases h2 with ⟨rfl, rfl⟩ | ⟨u, rfl, h2⟩ <;> simp [Instr.sliceAt, Instr.slice, Instr.sliceBounds, run_ul ht, run_sizeOf hi, slAddr, *]
        · exact h.elim
    · exact h.elim
  · rename_i n e ht
    split at h
    · obtain ⟨hh, h1, h⟩ := hiR_out (P := P) (code := .sliceAlen) h
      obtain ⟨ll, h2, h⟩ := loR_out (P := P) (code := .sliceB) h
      obtain ⟨i, hi, h⟩ := szR_out h
      refine ⟨_, fun w => ?_, h⟩
      rcases h1 with ⟨rfl, rfl⟩ | ⟨v, rfl, h1⟩ <;> rcases h2 with ⟨rfl, rfl⟩ | ⟨u, rfl, h2⟩ <;> simp [Instr.sliceAt, Instr.sureAddr, Instr.sliceBounds, run_ul ht, run_sizeOf hi, slAddr, *] <;> split <;> rfl
    · exact h.elim
  · exact h.elim
theorem extractR_yld {x : Value} {ix : Nat} (h : extractR x ix K) : Yld P (Instr.extract x ix) K := by
  unfold extractR at h
  split at h
  · split at h
    · rename_i hv
      exact ⟨_, fun w => by simp [Instr.extract, hv], h⟩
    · exact h.elim
  · exact h.elim
end
end Go.Eng
