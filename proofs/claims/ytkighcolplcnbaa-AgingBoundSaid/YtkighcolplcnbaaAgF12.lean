/- Queues that age: apart from what else there is; the examples; acts. -/
import Derived.Test.YtkighcolplcnbaaAgE12
set_option linter.unusedVariables false
namespace Go.Proofs
open Go Go.Eng
def offK (K : Nat → Prop) (B : Nat) : Nat → Prop := fun k => B ≤ k ∧ ¬ K k
def QK (K : Nat → Prop) (B : Nat) (w : World) (q : Nat) (Q : Que) : Prop := QAt w (offK K B) q Q ∧ (∀ k, K k → k < w.heap.size) ∧ B ≤ w.heap.size
section
variable {K : Nat → Prop} {B : Nat} {w w' : World} {q : Nat} {Q : Que}
theorem QAt.mono {ok ok' : Nat → Prop} (h : QAt w ok q Q) (hk : ∀ k, k < w.heap.size → ok k → ok' k) : QAt w ok' q Q := by
  obtain ⟨h0, A, c, h1, h2, h3⟩ := h
  exact ⟨hk q h1.lt h0, A, c, h1, h2.mono hk, h3⟩
theorem QAt.lt {ok : Nat → Prop} (h : QAt w ok q Q) : q < w.heap.size := by
  obtain ⟨_, _, _, h1, _⟩ := h; exact h1.lt
theorem QAt.qok {ok : Nat → Prop} (h : QAt w ok q Q) : QOk Q := by
  obtain ⟨_, _, _, _, _, h1⟩ := h; exact h1
theorem offK_bel (f : Fr (offK K B) w w') : Bel B w w' := f.mono fun _ _ h => h.1
theorem QK.fr (h : QK K B w q Q) {F : Nat → Prop} (f : Fr F w w') (hF : ∀ k, k < w.heap.size → F k → K k ∨ k < B) : QK K B w' q Q :=
  ⟨h.1.fr f fun k hk h1 h2 => by rcases hF k hk h2 with h3 | h3; exact h1.2 h3; have := h1.1; omega, fun k hk => Nat.lt_of_lt_of_le (h.2.1 k hk) f.size, Nat.le_trans h.2.2 f.size⟩
theorem QK.fr0 (h : QK K B w q Q) (f : Fr none1 w w') : QK K B w' q Q := h.fr f fun _ _ h => h.elim
theorem QK.grow (h : QK K B w q Q) {F : Nat → Prop} (f : Fr F w w') (hF : ∀ k, k < w.heap.size → F k → K k ∨ k < B) : QK (fun k => K k ∨ (w.heap.size ≤ k ∧ k < w'.heap.size)) B w' q Q := by
  have h1 := (h.1.mono (ok' := fun k => offK K B k ∧ k < w.heap.size) fun k hk ho => ⟨ho, hk⟩).fr f fun k hk h1 h2 => by
    rcases hF k hk h2 with h3 | h3
    · exact h1.1.2 h3
    · have := h1.1.1; omega
  refine ⟨h1.mono fun k _ hk => ⟨hk.1.1, fun h2 => ?_⟩, fun k hk => ?_, Nat.le_trans h.2.2 f.size⟩
  · rcases h2 with h2 | h2
    · exact hk.1.2 h2
    · have := hk.2; omega
  · rcases hk with hk | hk
    · exact Nat.lt_of_lt_of_le (h.2.1 k hk) f.size
    · exact hk.2
theorem QK.shrink {K' : Nat → Prop} (h : QK K B w q Q) (hK : ∀ k, K' k → K k) : QK K' B w q Q :=
  ⟨h.1.mono fun k _ hk => ⟨hk.1, fun h2 => hk.2 (hK k h2)⟩, fun k hk => h.2.1 k (hK k hk), h.2.2⟩
theorem QK.add (h : QK K B w q Q) (p : Int) (hn : Q.n < 1000000) : Ret Try.prog 12 [.pointer (some ⟨q, 0, none⟩), .int .i64 p] w fun v w' => v = .tuple ⟨[.int .i64 (adI Q p), .int .i64 (adE Q p)]⟩ ∧ QK K B w' q (adQ Q p) ∧ Fr (offK K B) w w' :=
  (qadd_ok h.1 p hn).imp fun v w' ⟨a, h1, f⟩ => ⟨a, ⟨h1.mono fun k _ hk => by
    rcases hk with hk | hk
    · exact hk
    · exact ⟨Nat.le_trans h.2.2 hk, fun h2 => by have := h.2.1 k h2; omega⟩, fun k hk => Nat.lt_of_lt_of_le (h.2.1 k hk) f.size, Nat.le_trans h.2.2 f.size⟩, f⟩
theorem QK.take (h : QK K B w q Q) (hb : Q.b < 1000000) : Ret Try.prog 13 [.pointer (some ⟨q, 0, none⟩)] w fun v w' => v = .tuple ⟨[.int .i64 (if nxB Q then nxI Q else 0), .bool (nxB Q)]⟩ ∧ QK K B w' q (tkQ Q) ∧ Fr (offK K B) w w' :=
  (qtake_ok h.1 hb).imp fun v w' ⟨a, h1, f⟩ => ⟨a, ⟨h1, fun k hk => Nat.lt_of_lt_of_le (h.2.1 k hk) f.size, Nat.le_trans h.2.2 f.size⟩, f⟩
theorem QK.drop (h : QK K B w q Q) (n : Int) : Ret Try.prog 14 [.pointer (some ⟨q, 0, none⟩), .int .i64 n] w fun v w' => v = .bool (drB Q n) ∧ QK K B w' q (drQ Q n) ∧ Fr (offK K B) w w' :=
  (qdrop_ok h.1 n).imp fun v w' ⟨a, h1, f⟩ => ⟨a, ⟨h1, fun k hk => Nat.lt_of_lt_of_le (h.2.1 k hk) f.size, Nat.le_trans h.2.2 f.size⟩, f⟩
theorem QK.new {n : Int} (hn : 0 ≤ n ∧ n ≤ 1000) (hB : B ≤ w.heap.size) (hK : ∀ k, K k → k < w.heap.size) : Ret Try.prog 10 [.int .i64 n] w fun v w' => ∃ q, v = .tuple ⟨[.pointer (some ⟨q, 0, none⟩), .int .i64 0]⟩ ∧ QK K B w' q ⟨[], 0, n.toNat, 0⟩ ∧ Fr none1 w w' ∧ B ≤ q :=
  (qnew_ok hn w).imp fun v w' ⟨a, h, f⟩ => ⟨_, a, ⟨h.mono fun k _ hk => ⟨Nat.le_trans hB hk, fun h2 => by have := hK k h2; have : w.heap.size ≤ k := hk; omega⟩, fun k hk => Nat.lt_of_lt_of_le (hK k hk) f.size, Nat.le_trans hB f.size⟩, f, hB⟩
end
theorem adQ_n (Q : Que) (p : Int) : (adQ Q p).n ≤ Q.n + 1 ∧ (adQ Q p).b = Q.b := by unfold adQ; split <;> simp
theorem tkQ_n (Q : Que) : (tkQ Q).n = Q.n ∧ (tkQ Q).b ≤ Q.b + 1 := by unfold tkQ; split <;> simp
theorem drQ_n (Q : Que) (n : Int) : (drQ Q n).n = Q.n ∧ (drQ Q n).b = Q.b := by unfold drQ; split <;> exact ⟨rfl, rfl⟩
def adds (Q : Que) (l : List Int) : Que := l.foldl adQ Q
theorem adds_succ (Q : Que) {l : List Int} {i : Nat} {p : Int} (h : l[i]? = some p) : adds Q (l.take (i + 1)) = adQ (adds Q (l.take i)) p := by
  unfold adds
  rw [List.take_add_one, h, List.foldl_append]; rfl
theorem adds_n (Q : Que) : ∀ l : List Int, (adds Q l).n ≤ Q.n + l.length ∧ (adds Q l).b = Q.b
  | [] => ⟨Nat.le_refl _, rfl⟩
  | p :: l => by
    have h1 := adds_n (adQ Q p) l
    have h2 := adQ_n Q p
    have e : adds Q (p :: l) = adds (adQ Q p) l := rfl
    rw [e, List.length_cons]
    exact ⟨by omega, h1.2.trans h2.2⟩
def takes (Q : Que) : Nat → Que
  | 0 => Q
  | n + 1 => tkQ (takes Q n)
theorem takes_b (Q : Que) : ∀ n, (takes Q n).b ≤ Q.b + n
  | 0 => Nat.le_refl _
  | n + 1 => by
    have h1 := takes_b Q n
    have h2 := (tkQ_n (takes Q n)).2
    show (tkQ (takes Q n)).b ≤ _
    omega
def ex1 : Que := adds ⟨[], 0, 1, 0⟩ [0, 5, 5]
def ex2 : Que := adds (tkQ ex1) [4, 5, 5, 5, 5, 5]
end Go.Proofs
