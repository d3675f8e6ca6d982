import Derived.Test.YtmhjjhpgbafjpaaDoorHp2
set_option linter.unusedVariables false
namespace Go.Eng
open Go
/-- `[]byte("..")` of a constant: the row that was built, marked at its end. -/
theorem run_bmark {P : Program} {t e : TypeId} (ht : P.underlying t = some (.slice e)) (he : P.underlying e = some (.int .u8)) (W : World) (xs : List UInt8) (n c : Nat) :
    ∃ w', (convert t t (.slice (some ⟨W.heap.size, 0, none⟩) n c)).run P (W.alloc (.cells ⟨bvs xs⟩ e)) = .ok (.slice (some ⟨W.heap.size, 0, none⟩) n c) w' ∧ Rd w' (from1 W.heap.size) (some ⟨W.heap.size, 0, none⟩) (bvs xs) ∧ Fr none1 W w' := by
  refine ⟨(W.alloc (.cells ⟨bvs xs⟩ e)).freeze ⟨W.heap.size, (bvs xs).length, none⟩ 1, ?_, .inr ⟨_, rfl, Nat.le_refl _, fun j v hv => ?_⟩, ⟨?_, ?_, ?_, ?_, ?_⟩⟩
  · have hsh : (W.alloc (.cells ⟨bvs xs⟩ e)).shape? W.heap.size = some (e, (bvs xs).length) := by
      simp [World.shape?, World.alloc, -World.alloc_eq]
    simp [convert, run_ul ht, run_ul he, markStringish, hsh]
  · have e1 : (⟨W.heap.size, 0, none⟩ : Addr).add j = ⟨W.heap.size, j, none⟩ := by unfold Addr.add; split <;> simp_all
    rw [e1]
    simp [World.freeze, World.alloc, World.cell?, -World.alloc_eq, Array.getElem_modify_self, hv]
  · simp only [World.freeze]; split <;> rfl
  · simp only [World.freeze]; split <;> rfl
  · simp only [World.freeze]; split <;> rfl
  · simp [World.freeze]
  · intro k hk _
    have h1 : W.heap.size ≠ k := by omega
    simp [World.freeze, World.alloc, -World.alloc_eq, Array.getElem?_modify, Array.getElem?_push, h1, Ne.symm h1]
/-- Below a number of blocks all is as it was. -/
abbrev Bel (B : Nat) (w w' : World) : Prop := Fr (from1 B) w w'
theorem Fr.bel {F : Nat → Prop} {w w' : World} {B : Nat} (h : Fr F w w') (hF : ∀ k, F k → B ≤ k) : Bel B w w' := h.mono fun k _ hk => hF k hk
theorem Fr.bel0 {w w' : World} {B : Nat} (h : Fr none1 w w') : Bel B w w' := h.mono fun _ _ h => h.elim
theorem Fr.top {w w' : World} (h : Bel w.heap.size w w') : Fr none1 w w' := h.mono fun k hk h => absurd hk (Nat.not_lt.2 h)
/-- What lies from B on, and is there in w. -/
def bw (B : Nat) (w : World) : Nat → Prop := fun k => B ≤ k ∧ k < w.heap.size
end Go.Eng
namespace Go.Eng
/-! ### Blocks by their element types -/
def hasTy (w : World) (ts : List Nat) (k : Nat) : Prop := ∃ cur t, w.heap[k]? = some (.cells cur t (0, 0)) ∧ t ∈ ts
theorem Own.tight {w : World} {e sz l c : Nat} {ok : Nat → Prop} {A : Option Addr} {xs : List Value} (h : Own w e sz ok A l c xs) {ts : List Nat} (he : e ∈ ts) : Own w e sz (fun k => ok k ∧ hasTy w ts k) A l c xs :=
  h.ok fun a ha => ⟨(h.has a ha).1, by obtain ⟨cur, hc⟩ := h.obj a ha; exact ⟨cur, e, hc, he⟩⟩
theorem Own.max {w : World} {e sz l c : Nat} {ok : Nat → Prop} {A : Option Addr} {xs : List Value} (h : Own w e sz ok A l c xs) : l ≤ maxLen := by
  rcases h.2 with ⟨_, h1, _⟩ | ⟨g, cur, h1, h2, h3, h4, h5, h6, h7⟩
  · simp [h1]
  · omega
theorem Own.notTy {w : World} {e sz l c : Nat} {ok : Nat → Prop} {A : Option Addr} {xs : List Value} (h : Own w e sz ok A l c xs) {ts : List Nat} (he : e ∉ ts) : ∀ a, A = some a → ¬ hasTy w ts a.block := fun a ha ⟨cur, t, h1, h2⟩ => by
  obtain ⟨cur', hc⟩ := h.obj a ha
  rw [hc] at h1
  simp at h1
  rw [h1.2] at he
  exact he h2
theorem Blk.hasTy {w : World} {b : Nat} {t : TypeId} {vs : List Value} (h : Blk w b t vs) {ts : List Nat} (ht : t ∈ ts) : hasTy w ts b := ⟨_, t, h, ht⟩
theorem Blk.notTy {w : World} {b : Nat} {t : TypeId} {vs : List Value} (h : Blk w b t vs) {ts : List Nat} (ht : t ∉ ts) : ¬ Go.Eng.hasTy w ts b := fun ⟨cur, t', h1, h2⟩ => by
  unfold Blk at h
  rw [h] at h1
  simp at h1
  rw [h1.2] at ht
  exact ht h2
end Go.Eng
