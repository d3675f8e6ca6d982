import Derived.Test.YtmhjjhpgbafjpaaDoorEng8
import Derived.Laws.OwnMore
import Derived.Laws.BytesArg
import Derived.Lib.ConvBytes
import Derived.Below
set_option linter.unusedVariables false
namespace Go.Eng
open Go

/-! ### Conditions, opened -/
theorem cD {p : Prop} [Decidable p] {A B : Prop} (h1 : p → A) (h2 : ¬ p → B) : cond (decide p) A B := by
  by_cases h : p <;> simp [h]
  · exact h1 h
  · exact h2 h
theorem cN {p : Prop} [Decidable p] {A B : Prop} (h1 : ¬ p → A) (h2 : p → B) : cond (!decide p) A B := by
  by_cases h : p <;> simp [h]
  · exact h2 h
  · exact h1 h
theorem cB {b : Bool} {A B : Prop} (h1 : b = true → A) (h2 : b = false → B) : cond b A B := by
  cases b
  · exact h2 rfl
  · exact h1 rfl
theorem cT {b : Bool} {A B : Prop} (h : b = true) (hA : A) : cond b A B := by subst h; exact hA
theorem cF {b : Bool} {A B : Prop} (h : b = false) (hB : B) : cond b A B := by subst h; exact hB
theorem Ret.use {P : Program} {f : FuncId} {args : List Value} {w : World} {Rp : Value → World → Prop} {Q : Ending → World → Prop} (h : Ret P f args w Rp)
    (k : ∀ v w', Rp v w' → Q (.returned v) w') : Calls P f ⟨args⟩ w Q :=
  Calls.mono h fun e w' ⟨v, he, hR⟩ => by subst he; exact k v w' hR
theorem Ret.imp {P : Program} {f : FuncId} {args : List Value} {w : World} {Rp Rp' : Value → World → Prop} (h : Ret P f args w Rp) (k : ∀ v w', Rp v w' → Rp' v w') : Ret P f args w Rp' :=
  Calls.mono h fun e w' ⟨v, he, hR⟩ => ⟨v, he, k v w' hR⟩

/-! ### Frames: which blocks may have turned -/
structure Fr (F : Nat → Prop) (w w' : World) : Prop where
  os : w'.os = w.os
  tape : w'.tape = w.tape
  output : w'.output = w.output
  size : w.heap.size ≤ w'.heap.size
  block : ∀ k, k < w.heap.size → ¬ F k → w'.heap[k]? = w.heap[k]?
def none1 : Nat → Prop := fun _ => False
def from1 (B : Nat) : Nat → Prop := fun k => B ≤ k
theorem Fr.refl (F : Nat → Prop) (w : World) : Fr F w w := ⟨rfl, rfl, rfl, Nat.le_refl _, fun _ _ _ => rfl⟩
theorem Fr.mono {F G : Nat → Prop} {w w' : World} (h : Fr F w w') (hG : ∀ k, k < w.heap.size → F k → G k) : Fr G w w' :=
  ⟨h.os, h.tape, h.output, h.size, fun k hk hg => h.block k hk (fun hf => hg (hG k hk hf))⟩
theorem Fr.trans {F G : Nat → Prop} {a b c : World} (h : Fr F a b) (k : Fr G b c) (hG : ∀ k, k < a.heap.size → G k → F k) : Fr F a c :=
  ⟨k.os.trans h.os, k.tape.trans h.tape, k.output.trans h.output, Nat.le_trans h.size k.size,
   fun i hi hf => (k.block i (Nat.lt_of_lt_of_le hi h.size) (fun hg => hf (hG i hi hg))).trans (h.block i hi hf)⟩
theorem Fr.trans' {F : Nat → Prop} {a b c : World} (h : Fr F a b) (k : Fr F b c) : Fr F a c := h.trans k fun _ _ h => h
theorem Fr.alloc {F : Nat → Prop} (w : World) (o : Obj) : Fr F w (w.alloc o) := ⟨rfl, rfl, rfl, by simp, fun k hk _ => RowKit.Below.heap_alloc w o k hk⟩
theorem Fr.drew {F : Nat → Prop} (w : World) : Fr F w w.drew := ⟨rfl, rfl, rfl, Nat.le_refl _, fun _ _ _ => rfl⟩
theorem Fr.setCell {F : Nat → Prop} (w : World) {p : Addr} (hp : F p.block) (u : Value) : Fr F w (w.setCell p u) :=
  ⟨rfl, rfl, rfl, by simp, fun k hk hf => by rw [RowKit.Below.heap_setCell w p u k (fun e => hf (e ▸ hp))]⟩
theorem Fr.below {F : Nat → Prop} {w w' : World} {B : Nat} (h : Fr F w w') (hB : ∀ k, F k → B ≤ k) (hle : B ≤ w.heap.size) : RowKit.Below B w w' :=
  ⟨h.os, h.tape, h.output, h.size, fun k hk => h.block k (by omega) (fun hf => by have := hB k hf; omega)⟩

/-! ### A struct's block -/
def Blk (w : World) (b : Nat) (t : TypeId) (vs : List Value) : Prop := w.heap[b]? = some (.cells ⟨vs⟩ t (0, 0))
theorem Blk.lt {w : World} {b : Nat} {t : TypeId} {vs : List Value} (h : Blk w b t vs) : b < w.heap.size := (Array.getElem?_eq_some_iff.1 h).1
theorem Blk.cell {w : World} {b : Nat} {t : TypeId} {vs : List Value} (h : Blk w b t vs) (j : Nat) : w.cell? ⟨b, j, none⟩ = vs[j]? := by
  unfold Blk at h; simp [World.cell?, h]
theorem Blk.free {w : World} {b : Nat} {t : TypeId} {vs : List Value} (h : Blk w b t vs) (j : Nat) : w.frozen? ⟨b, j, none⟩ = false := by
  unfold Blk at h; simp [World.frozen?, h]
theorem Blk.set {w : World} {b : Nat} {t : TypeId} {vs : List Value} (h : Blk w b t vs) (j : Nat) (u : Value) : Blk (w.setCell ⟨b, j, none⟩ u) b t (vs.set j u) := by
  unfold Blk at h ⊢; simp [World.setCell, Array.getElem?_modify, h]
theorem Blk.other {w : World} {b : Nat} {t : TypeId} {vs : List Value} (h : Blk w b t vs) {p : Addr} (hp : p.block ≠ b) (u : Value) : Blk (w.setCell p u) b t vs := by
  unfold Blk at h ⊢; rw [RowKit.Below.heap_setCell w p u b (Ne.symm hp)]; exact h
theorem Blk.new (w : World) (t : TypeId) (vs : List Value) : Blk (w.alloc (.cells ⟨vs⟩ t)) w.heap.size t vs := heap_alloc_new w _
theorem Blk.fr {F : Nat → Prop} {w w' : World} {b : Nat} {t : TypeId} {vs : List Value} (h : Blk w b t vs) (hf : Fr F w w') (hb : ¬ F b) : Blk w' b t vs := by
  unfold Blk at h ⊢; rw [hf.block b (Blk.lt h) hb]; exact h
theorem Blk.alloc {w : World} {b : Nat} {t : TypeId} {vs : List Value} (h : Blk w b t vs) (o : Obj) : Blk (w.alloc o) b t vs := h.fr (Fr.alloc (F := none1) w o) (fun h => h)
theorem Blk.ne {w : World} {b b' : Nat} {t t' : TypeId} {vs vs' : List Value} (h : Blk w b t vs) (h' : Blk w b' t' vs') (ht : t ≠ t') : b ≠ b' := by
  intro e; subst e; unfold Blk at h h'; rw [h] at h'; simp at h'; exact ht h'.2

/-! ### A slice as it reads -/
/-- The cells from an address on hold `cs`; its block is one of ok's. -/
def Rd (w : World) (ok : Nat → Prop) (A : Option Addr) (cs : List Value) : Prop :=
  cs = [] ∨ ∃ a, A = some a ∧ ok a.block ∧ ∀ j v, cs[j]? = some v → w.cell? (a.add j) = some v
theorem add_block (a : Addr) (j : Nat) : (a.add j).block = a.block := by unfold Addr.add; split <;> rfl
theorem add_add (a : Addr) (i j : Nat) : (a.add i).add j = a.add (i + j) := by
  unfold Addr.add
  by_cases hi : i = 0 <;> by_cases hj : j = 0 <;> simp_all [Nat.add_assoc]
theorem add_zero' (a : Addr) : a.add 0 = a := by simp [Addr.add]
theorem Rd.nil (w : World) (ok : Nat → Prop) (A : Option Addr) : Rd w ok A [] := .inl rfl
theorem Rd.mono {w : World} {ok ok' : Nat → Prop} {A : Option Addr} {cs : List Value} (h : Rd w ok A cs) (hk : ∀ k, k < w.heap.size → ok k → ok' k) : Rd w ok' A cs := by
  rcases h with h | ⟨a, h1, h2, h3⟩
  · exact .inl h
  · cases cs with
    | nil => exact .inl rfl
    | cons c cs =>
      have hlt : a.block < w.heap.size := by
        have := World.block_lt_of_cell? w _ (h3 0 c rfl); rwa [add_block] at this
      exact .inr ⟨a, h1, hk _ hlt h2, h3⟩
theorem Rd.fr {F : Nat → Prop} {w w' : World} {ok : Nat → Prop} {A : Option Addr} {cs : List Value} (h : Rd w ok A cs) (hf : Fr F w w') (hd : ∀ k, k < w.heap.size → ok k → ¬ F k) : Rd w' ok A cs := by
  rcases h with h | ⟨a, h1, h2, h3⟩
  · exact .inl h
  · refine .inr ⟨a, h1, h2, fun j v hv => ?_⟩
    have hc := h3 j v hv
    have hlt : (a.add j).block < w.heap.size := World.block_lt_of_cell? w _ hc
    rw [add_block] at hlt
    rw [← hc]
    exact World.cell?_of_block (by rw [add_block]; exact hf.block _ hlt (hd _ hlt h2))
theorem Rd.at {w : World} {ok : Nat → Prop} {A : Option Addr} {cs : List Value} (h : Rd w ok A cs) {i : Nat} {v : Value} (hv : cs[i]? = some v) : ∃ a, A = some a ∧ ok a.block ∧ w.cell? (a.add i) = some v := by
  rcases h with h | ⟨a, h1, h2, h3⟩
  · rw [h] at hv; cases hv
  · exact ⟨a, h1, h2, h3 i v hv⟩
theorem Rd.take {w : World} {ok : Nat → Prop} {A : Option Addr} {cs : List Value} (h : Rd w ok A cs) (n : Nat) : Rd w ok A (cs.take n) := by
  rcases h with h | ⟨a, h1, h2, h3⟩
  · left; rw [h]; simp
  · refine .inr ⟨a, h1, h2, fun j v hv => h3 j v ?_⟩
    rw [List.getElem?_take] at hv
    split at hv
    · exact hv
    · cases hv
/-- What `x[l:h]` reads; m is the capacity's end. -/
theorem Rd.drop {w : World} {ok : Nat → Prop} {A : Option Addr} {cs : List Value} (h : Rd w ok A cs) {m l sz : Nat} (hm : cs.length ≤ m * sz) : Rd w ok (slAddr A m l sz) (cs.drop (l * sz)) := by
  unfold slAddr
  rcases h with h | ⟨a, h1, h2, h3⟩
  · left; rw [h]; simp
  · by_cases e : m = l
    · rw [if_pos e]
      left; subst e; exact List.drop_eq_nil_of_le hm
    · rw [if_neg e]
      refine .inr ⟨a.add (l * sz), by rw [h1]; rfl, by rw [add_block]; exact h2, fun j v hv => ?_⟩
      rw [add_add]
      rw [List.getElem?_drop] at hv
      exact h3 _ v hv
theorem slAddr_zero (A : Option Addr) (m sz : Nat) : slAddr A m 0 sz = A := by
  unfold slAddr
  split
  · rfl
  · cases A <;> simp [Addr.add]

/-! ### A slice of the call's own -/
def Own (w : World) (e : TypeId) (sz : Nat) (ok : Nat → Prop) (A : Option Addr) (l c : Nat) (xs : List Value) : Prop :=
  xs.length = l * sz ∧ ((A = none ∧ l = 0 ∧ c = 0) ∨
    ∃ g cur, A = some ⟨g, 0, none⟩ ∧ ok g ∧ w.heap[g]? = some (.cells cur e (0, 0)) ∧ l ≤ c ∧ c ≤ maxLen ∧ cur.size = c * sz ∧ cur.toList.take (l * sz) = xs)
theorem Own.nil (w : World) (e : TypeId) (sz : Nat) (ok : Nat → Prop) : Own w e sz ok none 0 0 [] := ⟨by simp, .inl ⟨rfl, rfl, rfl⟩⟩
theorem Own.le {w : World} {e : TypeId} {sz : Nat} {ok : Nat → Prop} {A : Option Addr} {l c : Nat} {xs : List Value} (h : Own w e sz ok A l c xs) : l ≤ c := by
  rcases h.2 with ⟨_, h1, h2⟩ | ⟨g, cur, _, _, _, h, _⟩
  · omega
  · exact h
theorem Own.rd {w : World} {e : TypeId} {sz : Nat} {ok : Nat → Prop} {A : Option Addr} {l c : Nat} {xs : List Value} (h : Own w e sz ok A l c xs) : Rd w ok A xs := by
  rcases h.2 with ⟨_, h1, _⟩ | ⟨g, cur, h1, h2, h3, h4, h5, h6, h7⟩
  · left; exact List.eq_nil_of_length_eq_zero (by rw [h.1, h1]; simp)
  · refine .inr ⟨_, h1, h2, fun j v hv => ?_⟩
    have e1 : (⟨g, 0, none⟩ : Addr).add j = ⟨g, j, none⟩ := by unfold Addr.add; split <;> simp_all
    rw [e1]
    rw [← h7, List.getElem?_take] at hv
    split at hv
    · simp [World.cell?, h3]; simpa using hv
    · cases hv
theorem Own.mono {w : World} {e : TypeId} {sz : Nat} {ok ok' : Nat → Prop} {A : Option Addr} {l c : Nat} {xs : List Value} (h : Own w e sz ok A l c xs) (hk : ∀ k, k < w.heap.size → ok k → ok' k) : Own w e sz ok' A l c xs := by
  refine ⟨h.1, h.2.imp id ?_⟩
  rintro ⟨g, cur, h1, h2, h3, r⟩
  exact ⟨g, cur, h1, hk g (Array.getElem?_eq_some_iff.1 h3).1 h2, h3, r⟩
theorem Own.fr {F : Nat → Prop} {w w' : World} {e : TypeId} {sz : Nat} {ok : Nat → Prop} {A : Option Addr} {l c : Nat} {xs : List Value} (h : Own w e sz ok A l c xs) (hf : Fr F w w') (hd : ∀ k, k < w.heap.size → ok k → ¬ F k) : Own w' e sz ok A l c xs := by
  refine ⟨h.1, h.2.imp id ?_⟩
  rintro ⟨g, cur, h1, h2, h3, r⟩
  have hlt := (Array.getElem?_eq_some_iff.1 h3).1
  exact ⟨g, cur, h1, h2, by rw [hf.block g hlt (hd g hlt h2)]; exact h3, r⟩
theorem Own.take {w : World} {e : TypeId} {sz : Nat} {ok : Nat → Prop} {A : Option Addr} {l c : Nat} {xs : List Value} (h : Own w e sz ok A l c xs) {n : Nat} (hn : n ≤ l) : Own w e sz ok A n c (xs.take (n * sz)) := by
  have hle : n * sz ≤ l * sz := Nat.mul_le_mul_right _ hn
  refine ⟨by rw [List.length_take, h.1]; omega, ?_⟩
  rcases h.2 with ⟨h1, h2, h3⟩ | ⟨g, cur, h1, h2, h3, h4, h5, h6, h7⟩
  · left; exact ⟨h1, by omega, h3⟩
  · right
    refine ⟨g, cur, h1, h2, h3, by omega, h5, h6, ?_⟩
    rw [← h7, List.take_take]; congr 1; omega
/-- A row that the call has just built. -/
theorem Own.lit (w : World) (e : TypeId) (sz : Nat) (n : Nat) (cs : List Value) (hl : cs.length = n * sz) (hn : n ≤ maxLen) : Own (w.alloc (.cells ⟨cs⟩ e)) e sz (fun k => k = w.heap.size) (some ⟨w.heap.size, 0, none⟩) n n cs :=
  ⟨hl, .inr ⟨w.heap.size, _, rfl, rfl, heap_alloc_new w _, Nat.le_refl _, hn, by simpa using hl, by simp [← hl]⟩⟩
/-- A store into a row of the call's own. -/
theorem Own.set {w : World} {e : TypeId} {sz : Nat} {ok : Nat → Prop} {g l c : Nat} {xs : List Value} (h : Own w e sz ok (some ⟨g, 0, none⟩) l c xs) (j : Nat) (u : Value) : Own (w.setCell ⟨g, j, none⟩ u) e sz ok (some ⟨g, 0, none⟩) l c (xs.set j u) := by
  refine ⟨by simpa using h.1, ?_⟩
  rcases h.2 with ⟨h1, _⟩ | ⟨g', cur, h1, h2, h3, h4, h5, h6, h7⟩
  · cases h1
  · cases h1
    refine .inr ⟨g, cur.setIfInBounds j u, rfl, h2, ?_, h4, h5, by simpa using h6, ?_⟩
    · simp [World.setCell, Array.getElem?_modify, h3]
    · rw [← h7]; simp [List.take_set]
theorem Own.free {w : World} {e : TypeId} {sz : Nat} {ok : Nat → Prop} {g l c : Nat} {xs : List Value} (h : Own w e sz ok (some ⟨g, 0, none⟩) l c xs) (j : Nat) : w.frozen? ⟨g, j, none⟩ = false := by
  rcases h.2 with ⟨h1, _⟩ | ⟨g', cur, h1, h2, h3, _⟩
  · cases h1
  · cases h1; simp [World.frozen?, h3]
theorem Own.form {w : World} {e : TypeId} {sz : Nat} {ok : Nat → Prop} {A : Option Addr} {l c : Nat} {xs : List Value} (h : Own w e sz ok A l c xs) (hl : 0 < l) : ∃ g, A = some ⟨g, 0, none⟩ ∧ ok g ∧ g < w.heap.size := by
  rcases h.2 with ⟨_, h1, _⟩ | ⟨g, cur, h1, h2, h3, _⟩
  · omega
  · exact ⟨g, h1, h2, (Array.getElem?_eq_some_iff.1 h3).1⟩
theorem Own.ok {w : World} {e : TypeId} {sz : Nat} {ok ok' : Nat → Prop} {A : Option Addr} {l c : Nat} {xs : List Value} (h : Own w e sz ok A l c xs) (hk : ∀ a, A = some a → ok' a.block) : Own w e sz ok' A l c xs := by
  refine ⟨h.1, h.2.imp id ?_⟩
  rintro ⟨g, cur, rfl, h2, r⟩
  exact ⟨g, cur, rfl, hk _ rfl, r⟩
theorem Own.has {w : World} {e : TypeId} {sz : Nat} {ok : Nat → Prop} {A : Option Addr} {l c : Nat} {xs : List Value} (h : Own w e sz ok A l c xs) : ∀ a, A = some a → ok a.block ∧ a.block < w.heap.size := by
  intro a ha
  rcases h.2 with ⟨h1, _⟩ | ⟨g, cur, h1, h2, h3, _⟩
  · rw [h1] at ha; cases ha
  · rw [h1] at ha; cases ha; exact ⟨h2, (Array.getElem?_eq_some_iff.1 h3).1⟩
theorem Own.fr1 {F : Nat → Prop} {w w' : World} {e : TypeId} {sz : Nat} {ok : Nat → Prop} {A : Option Addr} {l c : Nat} {xs : List Value} (h : Own w e sz ok A l c xs) (hf : Fr F w w') (hA : ∀ a, A = some a → ¬ F a.block) : Own w' e sz ok A l c xs := by
  refine ⟨h.1, h.2.imp id ?_⟩
  rintro ⟨g, cur, rfl, h2, h3, r⟩
  exact ⟨g, cur, rfl, h2, by rw [hf.block g (Array.getElem?_eq_some_iff.1 h3).1 (hA _ rfl)]; exact h3, r⟩
theorem Own.obj {w : World} {e : TypeId} {sz : Nat} {ok : Nat → Prop} {A : Option Addr} {l c : Nat} {xs : List Value} (h : Own w e sz ok A l c xs) : ∀ a, A = some a → ∃ cur, w.heap[a.block]? = some (.cells cur e (0, 0)) := by
  intro a ha
  rcases h.2 with ⟨h1, _⟩ | ⟨g, cur, h1, h2, h3, _⟩
  · rw [h1] at ha; cases ha
  · rw [h1] at ha; cases ha; exact ⟨cur, h3⟩
theorem Own.ne_blk {w : World} {e t : TypeId} {sz b : Nat} {ok : Nat → Prop} {A : Option Addr} {l c : Nat} {xs vs : List Value} (h : Own w e sz ok A l c xs) (hb : Blk w b t vs) (hne : e ≠ t) : ∀ a, A = some a → a.block ≠ b := by
  intro a ha hab
  obtain ⟨cur, hc⟩ := h.obj a ha
  unfold Blk at hb; rw [hab, hb] at hc
  simp at hc; exact hne hc.2.symm
theorem Own.ne_own {w : World} {e e' : TypeId} {sz sz' : Nat} {ok ok' : Nat → Prop} {A A' : Option Addr} {l c l' c' : Nat} {xs xs' : List Value} (h : Own w e sz ok A l c xs) (h' : Own w e' sz' ok' A' l' c' xs') (hne : e ≠ e') : ∀ a, A = some a → ¬ (∃ a', A' = some a' ∧ a'.block = a.block) := by
  rintro a ha ⟨a', ha', hab⟩
  obtain ⟨cur, hc⟩ := h.obj a ha
  obtain ⟨cur', hc'⟩ := h'.obj a' ha'
  rw [hab, hc] at hc'
  simp at hc'; exact hne hc'.2
def ownAt (A : Option Addr) : Nat → Prop := fun k => ∃ a, A = some a ∧ a.block = k

/-- The type facts that append and make ask of an element's type. -/
structure ElT (P : Program) (t e : TypeId) (sz bytes : Nat) : Prop where
  ut : P.underlying t = some (.slice e)
  info : ∃ i z, P.info? e = some i ∧ i.zero = some z ∧ i.size = sz ∧ i.bytes = bytes ∧ z.cells.size = sz
  pos : 0 < sz
theorem run_append {P : Program} {t ty e : TypeId} {sz bytes : Nat} (T : ElT P t e sz bytes) {w : World} {ok ok2 : Nat → Prop} {A A2 : Option Addr} {l c m c2 : Nat} {xs news : List Value}
    (hown : Own w e sz ok A l c xs) (hn : news.length = m * sz) (hr : Rd w ok2 A2 news) (h1 : ∀ u ∈ news, u.oneCell' = true) (hb : (l + m) * bytes ≤ 140737488355328) (hm : l + m ≤ maxLen) :
    ∃ A' c' w', (Builtin.append_ #[t, t] ty ⟨[.slice A l c, .slice A2 m c2]⟩).run P w = .ok (.slice A' (l + m) c') w' ∧ Own w' e sz (fun k => ok k ∨ w.heap.size ≤ k) A' (l + m) c' (xs ++ news) ∧ Fr (ownAt A) w w' ∧ (l + m ≤ c → A' = A ∧ c' = c) := by
  obtain ⟨ht, ⟨i, z, hi, hz, hsz, hby, hzs⟩, hpos⟩ := T
  subst hsz; subst hby
  have hsmall : l + m ≤ 9223372036854775807 := by simp only [maxLen] at hm; omega
  have hlen : (xs ++ news).length = (l + m) * i.size := by rw [List.length_append, hown.1, hn, Nat.add_mul]
  have nz : news ≠ [] → ∃ a, A2 = some a ∧ ∀ j v, news[j]? = some v → w.cell? (a.add j) = some v := fun h => by
    rcases hr with h' | ⟨a, ha, _, hc⟩
    · exact absurd h' h
    · exact ⟨a, ha, hc⟩
  by_cases hm0 : m = 0
  · -- nothing is appended
    subst hm0
    have hnil : news = [] := List.eq_nil_of_length_eq_zero (by simpa using hn)
    subst hnil
    refine ⟨A, c, w, ?_, by simpa using hown.mono fun k _ h => .inl h, Fr.refl _ _, fun _ => ⟨rfl, rfl⟩⟩
    have hle := hown.le
    have hfc : (Builtin.firstCells i.size 0 (.slice A2 0 c2)).run P w = .ok #[] w := by
      cases A2 <;> simp [Builtin.firstCells, loadCells, loadCellsFrom]
    have hi' : ∀ w, (sizeOf e).run P w = .ok i.size w := run_sizeOf hi
    simp only [Builtin.append_, Sem.run_bind, List.getElem?_toArray, List.getElem?_cons_zero, List.getElem?_cons_succ, run_ul ht, Result.andThen_ok, hi']
    simp [Builtin.lenOf, hle, hfc]
    cases A <;> simp [storeCells]
  · have hne : news ≠ [] := fun h => by
      rw [h, List.length_nil] at hn
      have := Nat.mul_pos (Nat.pos_of_ne_zero hm0) hpos
      omega
    obtain ⟨a2, rfl, hc2⟩ := nz hne
    have fresh : ∀ (old : Nat), old < l + m → Own (w.drew.alloc (.cells (xs.toArray ++ news.toArray ++ Builtin.zeroCells z.cells (grownCap w (l + m) old e - (l + m))) e)) e i.size (fun k => ok k ∨ w.heap.size ≤ k)
        (some ⟨w.heap.size, 0, none⟩) (l + m) (grownCap w (l + m) old e) (xs ++ news) ∧ Fr (ownAt A) w (w.drew.alloc (.cells (xs.toArray ++ news.toArray ++ Builtin.zeroCells z.cells (grownCap w (l + m) old e - (l + m))) e)) := by
      intro old ho
      have hge := grownCap_ge w (l + m) old e
      have hcm : grownCap w (l + m) old e ≤ maxLen := grownCap_le_maxLen w (l + m) old e hm
      refine ⟨⟨hlen, .inr ⟨w.heap.size, _, rfl, .inr (Nat.le_refl _), heap_alloc_new w.drew _, hge, hcm, ?_, ?_⟩⟩, (Fr.drew w).trans' (Fr.alloc _ _)⟩
      · simp only [Array.size_append, List.size_toArray, size_zeroCells, hzs, hown.1, hn, ← Nat.add_mul]
        congr 1; omega
      · simp only [Array.toList_append, List.append_assoc]
        rw [← List.append_assoc, ← hlen]
        exact List.take_left
    rcases hown.2 with ⟨rfl, rfl, rfl⟩ | ⟨g, cur, rfl, hok, hg, hlc, hcm, hcs, htake⟩
    · have hx : xs = [] := List.eq_nil_of_length_eq_zero (by simpa using hown.1)
      subst hx
      have hr := run_append_nil (P := P) w t ty e i z ht hi hz a2 m c2 news hn hc2 (by omega) (by omega) (by have hb := hb; simp only [Nat.zero_add] at hb; omega)
      have hgr := fresh 0 (by omega)
      simp only [Nat.zero_add, List.nil_append, Array.empty_append] at hgr ⊢
      exact ⟨_, _, _, hr, hgr.1, hgr.2, fun h => by omega⟩
    · by_cases hroom : l + m ≤ c
      · have hfit : l * i.size + news.length ≤ cur.size := by rw [hn, hcs, ← Nat.add_mul]; exact Nat.mul_le_mul_right _ hroom
        have hr := run_append_room (P := P) w t ty e i ht hi g l c cur hg a2 m c2 news hn hc2 h1 hroom hfit
        refine ⟨_, _, _, hr, ⟨hlen, .inr ⟨g, _, rfl, .inl hok, setRow_heap w g cur _ e _ hg, hroom, hcm, ?_, ?_⟩⟩, ⟨rfl, rfl, rfl, by simp, fun k _ hk => setRow_other w g k _ (fun e => hk ⟨_, rfl, e.symm⟩)⟩, fun _ => ⟨rfl, rfl⟩⟩
        · simp only [List.size_toArray, List.length_append, List.length_take, List.length_drop, Array.length_toList]
          omega
        · rw [htake, ← hlen]
          exact List.take_left
      · have hrd := hown.rd
        have holds : ∀ j u, xs[j]? = some u → w.cell? ((⟨g, 0, none⟩ : Addr).add j) = some u := by
          intro j u hu
          obtain ⟨a, h1, _, h3⟩ := hrd.at hu
          cases h1; exact h3
        have hr := run_append_grow (P := P) w t ty e i z ht hi hz ⟨g, 0, none⟩ l c xs hown.1 holds a2 m c2 news hn hc2 (by omega) (by omega) (growslice_fits (by omega) hb)
        have hgr := fresh c (by omega)
        exact ⟨_, _, _, hr, hgr.1, hgr.2, fun h => by omega⟩

/-! ### Bytes -/
def bv (b : UInt8) : Value := .int .u8 (b.toNat : Int)
def bvs (l : List UInt8) : List Value := l.map bv
theorem bvs_length (l : List UInt8) : (bvs l).length = l.length := by simp [bvs]
theorem bvs_one (l : List UInt8) : ∀ u ∈ bvs l, u.oneCell' = true := by
  intro u hu; simp only [bvs, List.mem_map] at hu; obtain ⟨b, _, rfl⟩ := hu; rfl
theorem bvs_get {l : List UInt8} {i : Nat} {b : UInt8} (h : l[i]? = some b) : (bvs l)[i]? = some (bv b) := by simp [bvs, h]
def str (l : List UInt8) : ByteArray := ⟨l.toArray⟩
theorem str_inj {a b : List UInt8} : str a = str b ↔ a = b := by
  simp [str]
theorem run_toString {P : Program} {t ty e : TypeId} (ht : P.underlying t = some (.slice e)) (he : P.underlying e = some (.int .u8)) (hs : P.underlying ty = some .string) {w : World} {ok : Nat → Prop} {A : Option Addr} {l c : Nat} {xs : List UInt8}
    (hl : xs.length = l) (h : Rd w ok A (bvs xs)) : (convert t ty (.slice A l c)).run P w = .ok (.string (str xs)) w := by
  rw [run_convert_bytes_string w t ty e A l c ht he hs]
  have ints : bvs xs = (xs.map fun b => (b.toNat : Int)).map (Value.int .u8) := by simp [bvs, bv, Function.comp_def]
  have fin : (xs.map fun b => (b.toNat : Int)).foldl (fun r n => r.push (UInt8.ofNat n.toNat)) ByteArray.empty = str xs := by
    rw [foldl_push_bytes]
    simp [str, ByteArray.empty, ByteArray.emptyWithCapacity, Function.comp_def]
    rfl
  rcases h with h | ⟨a, rfl, _, h⟩
  · have hx : xs = [] := by simpa [bvs] using h
    subst hx
    simp at hl; subst hl
    cases A with
    | none => simp [Conv.bytesToString]; rfl
    | some a =>
      rw [run_bytesToString w a 0 c [] (by simp [loadCells, loadCellsFrom])]
      rfl
  · have hld := run_loadCells_list (P := P) w a (bvs xs) h
    rw [bvs_length, hl, ints] at hld
    rw [run_bytesToString w a l c _ hld, fin]
theorem run_ofString {P : Program} {t ty e : TypeId} (ht : P.underlying t = some .string) (hty : P.underlying ty = some (.slice e)) (he : P.underlying e = some (.int .u8)) (w : World) (xs : List UInt8) :
    ∃ c w', (convert t ty (.string (str xs))).run P w = .ok (.slice (some ⟨w.heap.size, 0, none⟩) xs.length c) w' ∧ Rd w' (fun k => k = w.heap.size) (some ⟨w.heap.size, 0, none⟩) (bvs xs) ∧ Fr none1 w w' := by
  have hsz : (str xs).size = xs.length := by simp [str, ByteArray.size]
  refine ⟨_, _, by rw [Lib.run_convert_string_bytes w t ty e (str xs) ht hty he, hsz], .inr ⟨_, rfl, rfl, fun j v hv => ?_⟩, ⟨?_, ?_, ?_, ?_, ?_⟩⟩
  · have hj : j < xs.length := by
      have := (List.getElem?_eq_some_iff.1 hv).1; simpa [bvs] using this
    have e1 : (⟨w.heap.size, 0, none⟩ : Addr).add j = ⟨w.heap.size, j, none⟩ := by unfold Addr.add; split <;> simp_all
    rw [e1, Lib.bytesWorld_cell w e (str xs) j (by rw [hsz]; exact hj)]
    rw [← hv]
    simp [bvs, bv, str, List.getD, hj]
  · simp only [Lib.bytesWorld, World.freeze]; split <;> rfl
  · simp only [Lib.bytesWorld, World.freeze]; split <;> rfl
  · simp only [Lib.bytesWorld, World.freeze]; split <;> rfl
  · rw [Lib.bytesWorld_size]; omega
  · intro k hk _; exact Lib.bytesWorld_at_old w e (str xs) k hk
end Go.Eng
