import Derived.Test.YthmipkbcapmmcaaNetH
set_option linter.unusedVariables false
namespace Go.Proofs
open Go Go.Eng
theorem xor_step {w : World} {ok : Nat → Prop} {A : Option Addr} {l c : Nat} {vs : List Value} (h : Own w 5 1 ok A l c vs) (hv : ∀ v ∈ vs, ∃ n, v = .int .u8 n) {i : Nat} (hi : i < l) :
    ∃ (a : Addr) (n : Int), A = some a ∧ w.cell? (a.add (i * 1)) = some (.int .u8 n) ∧ (∃ u, w.cell? (a.add (i * 1)) = some u) ∧ w.frozen? (a.add (i * 1)) = false ∧
      ∀ m : Int, ∃ vs', Own (w.setCell (a.add (i * 1)) (.int .u8 m)) 5 1 ok A l c vs' ∧ (∀ v ∈ vs', ∃ n, v = .int .u8 n) ∧ Fr (ownAt A) w (w.setCell (a.add (i * 1)) (.int .u8 m)) := by
  obtain ⟨g, rfl, _, _⟩ := h.form (by omega)
  have hlen := h.1
  have hx : vs[i]? = some vs[i] := List.getElem?_eq_getElem (by omega)
  obtain ⟨n, hn⟩ := hv _ (List.getElem_mem (l := vs) (n := i) (by omega))
  obtain ⟨a, ha, _, hc⟩ := h.rd.at hx
  cases ha
  rw [Nat.mul_one]
  rw [hn] at hc
  refine ⟨_, n, rfl, hc, ⟨_, hc⟩, by rw [add_g]; exact h.free i, fun m => ?_⟩
  rw [add_g]
  refine ⟨vs.set i (.int .u8 m), h.set i _, fun v hv' => ?_, Fr.setCell w ⟨_, rfl, rfl⟩ _⟩
  rcases List.mem_or_eq_of_mem_set hv' with h' | h'
  · exact hv v h'
  · exact ⟨m, h'⟩
theorem bvs_u8 (xs : List UInt8) : ∀ v ∈ bvs xs, ∃ n, v = .int .u8 n := by
  intro v hv
  simp [bvs] at hv
  obtain ⟨b, _, rfl⟩ := hv
  exact ⟨_, rfl⟩
/-- What a network of the law's own may write. -/
def netF (ok : Nat → Prop) (w : World) : Nat → Prop := fun k => ok k ∧ hasTy w [50, 28, 5] k
theorem netF_ty {ok : Nat → Prop} {w : World} : ∀ k, k < w.heap.size → netF ok w k → hasTy w [50, 28, 5] k := fun _ _ h => h.2
theorem sendT {w : World} {ok ok2 : Nat → Prop} {b : Nat} {L : List (List UInt8)} (h : NetAt w ok b L) {A : Option Addr} {l c : Nat} {xs : List UInt8} (hl : xs.length = l) (hb : xs.length ≤ 140737488351232) (hr : Rd w ok2 A (bvs xs)) :
    Ret Try.prog 11 [.pointer (some ⟨b, 0, none⟩), .slice A l c] w fun v w' => Fr (netF ok w) w w' ∧ ∃ e : Int, v = .int .i64 e ∧
      ((1024 ≤ L.length ∧ e = 4 ∧ NetAt w' (fun k => ok k ∨ w.heap.size ≤ k) b L) ∨ (L.length < 1024 ∧ e = 0 ∧ NetAt w' (fun k => ok k ∨ w.heap.size ≤ k) b (L ++ [xs]))) :=
  (send_ok (NetAt.tight h) hl hb hr).imp fun v w' h' => by
    rcases h' with ⟨h1, h2, rfl⟩ | ⟨h1, h2, h3, h4⟩
    · exact ⟨Fr.refl _ _, 4, h2, .inl ⟨h1, rfl, h.mono fun k _ h => .inl h⟩⟩
    · exact ⟨h4, 0, h2, .inr ⟨h1, rfl, h3.mono fun k hk h => h.imp (fun h => h.1) id⟩⟩
theorem takeT {w : World} {ok : Nat → Prop} {b : Nat} {L : List (List UInt8)} (h : NetAt w ok b L) (hL : L.length ≤ 1024) (i : Int) : Ret Try.prog 12 [.pointer (some ⟨b, 0, none⟩), .int .i64 i] w fun v w' => Fr (netF ok w) w w' ∧
    (∃ A' c', v = .tuple ⟨[Value.slice A' ((look L i).getD []).length c', .bool (look L i).isSome]⟩ ∧ Own w' 5 1 (from1 w.heap.size) A' ((look L i).getD []).length c' (bvs ((look L i).getD []))) ∧ NetAt w' ok b (if (look L i).isSome then L.eraseIdx i.toNat else L) :=
  (take_ok (NetAt.tight h) hL i).imp fun v w' h' => by
    cases hlk : look L i with
    | none =>
      rw [hlk] at h'
      obtain ⟨h1, h2, h3⟩ := h'
      exact ⟨h3.mono fun _ _ h => h.elim, ⟨none, 0, h1, Own.nil _ _ _ _⟩, h2.mono fun k hk h => h.1⟩
    | some xs =>
      rw [hlk] at h'
      obtain ⟨A', c', h1, h2, h3, h4⟩ := h'
      exact ⟨h4, ⟨A', c', h1, h2⟩, h3.mono fun k hk h => h.1⟩
theorem loseT {w : World} {ok : Nat → Prop} {b : Nat} {L : List (List UInt8)} (h : NetAt w ok b L) (hL : L.length ≤ 1024) (i : Int) : Ret Try.prog 18 [.pointer (some ⟨b, 0, none⟩), .int .i64 i] w fun v w' => Fr (netF ok w) w w' ∧
    v = .bool (look L i).isSome ∧ NetAt w' ok b (if (look L i).isSome then L.eraseIdx i.toNat else L) :=
  (lose_ok (NetAt.tight h) hL i).imp fun v w' h' => by
    cases hlk : look L i with
    | none =>
      rw [hlk] at h'
      obtain ⟨h1, h2, h3⟩ := h'
      exact ⟨h3.mono fun _ _ h => h.elim, h1, h2.mono fun k hk h => h.1⟩
    | some xs =>
      rw [hlk] at h'
      obtain ⟨h1, h3, h4⟩ := h'
      exact ⟨h4, h1, h3.mono fun k hk h => h.1⟩
def Both (B : Nat) (w : World) (b r : Nat) (L : List (List UInt8)) : Prop := NetIn B w b L ∧ RefIn B w r L ∧ L.length ≤ 1024
theorem Both.fr {B : Nat} {w w' : World} {b r : Nat} {L : List (List UInt8)} (h : Both B w b r L) (f : Fr none1 w w') : Both B w' b r L := ⟨h.1.fr f, h.2.1.fr0 f, h.2.2⟩
section
variable {W : World} {b r : Nat} {B : Nat}
/-- The end of a step. -/
theorem plays_end {R : Value → World → Prop} {B1 : Int × Unit → World → Prop} {w : World} {L : List (List UInt8)} {A : Option Addr} {l c : Nat} {m : Int} {n : Nat} (hb : Both B w b r L) (hn : (n : Int) + 1 ≤ 1000) (k : ∀ w', Fr none1 w w' → B1 ((n : Int) + 1, ()) w') :
    S4_k7 true (some ⟨b, 0, none⟩) ⟨r, 0, none⟩ A l c m (n : Int) w R B1 := by
  have d : Fr none1 w w.drew := Fr.drew w
  obtain ⟨h1, ⟨hb, D, d', j1, j2⟩, h3⟩ := hb.fr d
  have fin : S4_k8 true (some ⟨b, 0, none⟩) ⟨r, 0, none⟩ A l c m (n : Int) (!decide ((L.length : Int) = (L.length : Int))) w.drew R B1 := by
    refine cF (by simp) ?_
    rw [IntWalk.i64_in ((n : Int) + 1) (by omega)]
    exact k _ d
  refine ⟨_, rfl, ?_, ?_⟩
  · refine (len_ok h1).use ?_
    rintro v w2 ⟨rfl, rfl⟩
    exact ⟨_, rfl, D, _, d', by rw [j1.cell]; rfl, fin⟩
  · refine ⟨D, _, d', by rw [j1.cell]; rfl, ?_⟩
    refine (len_ok h1).use ?_
    rintro v w2 ⟨rfl, rfl⟩
    exact ⟨_, rfl, fin⟩
/-- The loop that turns bytes of the law's own (k4). -/
theorem plays_k4 {R : Value → World → Prop} {B1 : Int × Unit → World → Prop} {w : World} {L : List (List UInt8)} {A A' : Option Addr} {l c l' c' : Nat} {m : Int} {n : Nat} {vs : List Value} {ok ok' : Nat → Prop}
    (ho : Own w 5 1 ok' A' l' c' vs) (hv : ∀ v ∈ vs, ∃ n, v = .int .u8 n) (h1 : NetAt w ok b L) (h2 : RefIn B w r L) (h3 : L.length ≤ 1024) (ha : ∀ a, A' = some a → ¬ ok a.block ∧ B ≤ a.block) (hok : ∀ k, ok k → B ≤ k)
    (hn : (n : Int) + 1 ≤ 1000) (k : ∀ w', Bel B w w' → Both B w' b r L → B1 ((n : Int) + 1, ()) w') :
    S4_k4 true (some ⟨b, 0, none⟩) ⟨r, 0, none⟩ A' l' c' A l c m (n : Int) w R B1 := by
  have hl := ho.max
  simp only [maxLen] at hl
  refine ⟨fun s w' => ∃ (i : Nat) (vs' : List Value), s.1 = (i : Int) ∧ i ≤ l' ∧ Own w' 5 1 ok' A' l' c' vs' ∧ (∀ v ∈ vs', ∃ n, v = .int .u8 n) ∧ Fr (ownAt A') w w', fun s _ => l' - s.1.toNat, ⟨0, vs, rfl, Nat.zero_le _, ho, hv, Fr.refl _ _⟩, ?_⟩
  rintro J ⟨i', ⟨⟩⟩ w1 ⟨i, vs', hi, hle, o1, v1, f1⟩
  dsimp only at hi ⊢
  subst hi
  refine cD (fun hlt => ?_) (fun hlt => ?_)
  · obtain ⟨a, x, e1, e2, e3, e4, e5⟩ := xor_step o1 v1 (i := i) (by omega)
    obtain ⟨vs2, o2, v2, f2⟩ := e5 (bitsI .xor .u8 x 85)
    refine ⟨a, e1, by omega, by omega, x, by rw [Int.toNat_natCast]; exact e2, a, e1, by omega, by omega, by rw [Int.toNat_natCast]; exact e3, by rw [Int.toNat_natCast]; exact e4, ?_⟩
    rw [IntWalk.i64_in ((i : Int) + 1) (by omega), Int.toNat_natCast]
    exact ⟨⟨i + 1, vs2, by simp, by omega, o2, v2, f1.trans' f2⟩, by dsimp only; omega⟩
  · have fb : Bel B w w1 := f1.bel fun k ⟨a, h, e⟩ => e ▸ (ha a h).2
    have f5 : ∀ k, k < w.heap.size → ownAt A' k → hasTy w [5] k := fun k hk ⟨a, h, e⟩ => by
      subst e; obtain ⟨cur, hc⟩ := ho.obj a h; exact ⟨cur, 5, hc, by decide⟩
    have n1 : NetIn B w1 b L := (h1.fr f1 fun k hk ho ⟨a, h, e⟩ => (ha a h).1 (e ▸ ho)).mono fun k hk h => ⟨hok k h, hk⟩
    have r1 : RefIn B w1 r L := h2.frT f1 f5 (by decide) (by decide)
    exact plays_end ⟨n1, r1, h3⟩ hn fun w2 f2 => k w2 (fb.trans' f2.bel0) (Both.fr ⟨n1, r1, h3⟩ f2)
/-- The loop that turns bytes of the law's own (k11). -/
theorem plays_k11 {R : Value → World → Prop} {B1 : Int × Unit → World → Prop} {w : World} {L : List (List UInt8)} {A A' : Option Addr} {l c l' c' : Nat} {m : Int} {n : Nat} {vs : List Value} {ok ok' : Nat → Prop}
    (ho : Own w 5 1 ok' A' l' c' vs) (hv : ∀ v ∈ vs, ∃ n, v = .int .u8 n) (h1 : NetAt w ok b L) (h2 : RefIn B w r L) (h3 : L.length ≤ 1024) (ha : ∀ a, A' = some a → ¬ ok a.block ∧ B ≤ a.block) (hok : ∀ k, ok k → B ≤ k)
    (hn : (n : Int) + 1 ≤ 1000) (k : ∀ w', Bel B w w' → Both B w' b r L → B1 ((n : Int) + 1, ()) w') :
    S4_k11 true (some ⟨b, 0, none⟩) ⟨r, 0, none⟩ A' l' c' A l c m (n : Int) w R B1 := by
  have hl := ho.max
  simp only [maxLen] at hl
  refine ⟨fun s w' => ∃ (i : Nat) (vs' : List Value), s.1 = (i : Int) ∧ i ≤ l' ∧ Own w' 5 1 ok' A' l' c' vs' ∧ (∀ v ∈ vs', ∃ n, v = .int .u8 n) ∧ Fr (ownAt A') w w', fun s _ => l' - s.1.toNat, ⟨0, vs, rfl, Nat.zero_le _, ho, hv, Fr.refl _ _⟩, ?_⟩
  rintro J ⟨i', ⟨⟩⟩ w1 ⟨i, vs', hi, hle, o1, v1, f1⟩
  dsimp only at hi ⊢
  subst hi
  refine cD (fun hlt => ?_) (fun hlt => ?_)
  · obtain ⟨a, x, e1, e2, e3, e4, e5⟩ := xor_step o1 v1 (i := i) (by omega)
    obtain ⟨vs2, o2, v2, f2⟩ := e5 (bitsI .xor .u8 x 85)
    refine ⟨a, e1, by omega, by omega, x, by rw [Int.toNat_natCast]; exact e2, a, e1, by omega, by omega, by rw [Int.toNat_natCast]; exact e3, by rw [Int.toNat_natCast]; exact e4, ?_⟩
    rw [IntWalk.i64_in ((i : Int) + 1) (by omega), Int.toNat_natCast]
    exact ⟨⟨i + 1, vs2, by simp, by omega, o2, v2, f1.trans' f2⟩, by dsimp only; omega⟩
  · have fb : Bel B w w1 := f1.bel fun k ⟨a, h, e⟩ => e ▸ (ha a h).2
    have f5 : ∀ k, k < w.heap.size → ownAt A' k → hasTy w [5] k := fun k hk ⟨a, h, e⟩ => by
      subst e; obtain ⟨cur, hc⟩ := ho.obj a h; exact ⟨cur, 5, hc, by decide⟩
    have n1 : NetIn B w1 b L := (h1.fr f1 fun k hk ho ⟨a, h, e⟩ => (ha a h).1 (e ▸ ho)).mono fun k hk h => ⟨hok k h, hk⟩
    have r1 : RefIn B w1 r L := h2.frT f1 f5 (by decide) (by decide)
    exact plays_end ⟨n1, r1, h3⟩ hn fun w2 f2 => k w2 (fb.trans' f2.bel0) (Both.fr ⟨n1, r1, h3⟩ f2)
theorem peekT {w : World} {ok : Nat → Prop} {b : Nat} {L : List (List UInt8)} (h : NetAt w ok b L) (i : Int) : Ret Try.prog 13 [.pointer (some ⟨b, 0, none⟩), .int .i64 i] w fun v w' =>
    (∃ A' c', v = .tuple ⟨[Value.slice A' ((look L i).getD []).length c', .bool (look L i).isSome]⟩ ∧ Own w' 5 1 (from1 w.heap.size) A' ((look L i).getD []).length c' (bvs ((look L i).getD []))) ∧ Fr none1 w w' :=
  (peek_ok h i).imp fun v w' h' => by
    cases hlk : look L i with
    | none => rw [hlk] at h'; exact ⟨⟨none, 0, h'.1, Own.nil _ _ _ _⟩, h'.2⟩
    | some xs => rw [hlk] at h'; exact h'
/-- What is behind the document's answer to a packet that was sent. -/
theorem plays_sent {R : Value → World → Prop} {B1 : Int × Unit → World → Prop} {w3 : World} {L2 : List (List UInt8)} {A A' : Option Addr} {l c l' c' : Nat} {m e1 e2 : Int} {n : Nat} {vs : List Value} {ok ok' : Nat → Prop}
    (he : e1 = e2) (ho : Own w3 5 1 ok' A' l' c' vs) (hv : ∀ v ∈ vs, ∃ n, v = .int .u8 n) (h1 : NetAt w3 ok b L2) (h2 : RefIn B w3 r L2) (h3 : L2.length ≤ 1024) (ha : ∀ a, A' = some a → ¬ ok a.block ∧ B ≤ a.block) (hok : ∀ k, ok k → B ≤ k)
    (hn : (n : Int) + 1 ≤ 1000) (k : ∀ w', Bel B w3 w' → Both B w' b r L2 → B1 ((n : Int) + 1, ()) w') :
    S4_k3 true (some ⟨b, 0, none⟩) ⟨r, 0, none⟩ A' l' c' A l c m (n : Int) (!decide (e1 = e2)) w3 R B1 :=
  cF (by simp [he]) (plays_k4 ho hv h1 h2 h3 ha hok hn k)
end
end Go.Proofs
