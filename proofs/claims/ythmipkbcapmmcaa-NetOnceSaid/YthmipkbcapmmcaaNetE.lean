import Derived.Test.YthmipkbcapmmcaaNetD
set_option linter.unusedVariables false
namespace Go.Proofs
open Go Go.Eng
/-! ### A nil network -/
theorem nil_peek (i : Int) (w : World) : Ret Try.prog 13 [.pointer none, .int .i64 i] w fun v w' => v = .tuple ⟨[Value.slice none 0 0, .bool false]⟩ ∧ w' = w := by
  apply S13_calls
  exact cT rfl ⟨rfl, rfl⟩
theorem nil_take (i : Int) (w : World) : Ret Try.prog 12 [.pointer none, .int .i64 i] w fun v w' => v = .tuple ⟨[Value.slice none 0 0, .bool false]⟩ ∧ w' = w := by
  apply S12_calls
  refine (nil_peek i w).use ?_
  rintro v w' ⟨rfl, rfl⟩
  exact ⟨_, _, _, _, rfl, rfl, rfl⟩
theorem nil_send (A : Option Addr) (l c : Nat) (w : World) : Ret Try.prog 11 [.pointer none, .slice A l c] w fun v w' => v = .int .i64 2 ∧ w' = w := by
  apply S11_calls
  exact cT rfl ⟨rfl, rfl⟩
theorem nil_len (w : World) : Ret Try.prog 14 [.pointer none] w fun v w' => v = .int .i64 0 ∧ w' = w := by
  apply S14_calls
  exact cT rfl ⟨rfl, rfl⟩
theorem nil_lose (i : Int) (w : World) : Ret Try.prog 18 [.pointer none, .int .i64 i] w fun v w' => v = .bool false ∧ w' = w := by
  apply S18_calls
  refine (nil_take i w).use ?_
  rintro v w' ⟨rfl, rfl⟩
  exact ⟨_, _, _, _, rfl, rfl, rfl⟩
/-- NetNil. -/
theorem netNil_ok (k : Int) (A : Option Addr) (l c : Nat) (i : Int) (w : World) : Ret Try.prog 5 [(.agg ⟨[(.int .u8 k), (.slice A l c), (.int .i64 i)]⟩)] w fun v w' => v = .bool true ∧ Fr none1 w w' := by
  apply S5_calls
  have b0 := Blk.new w 30 [(.int .u8 k), (.slice A l c), (.int .i64 i)]
  have f0 : Fr none1 w (w.alloc (.cells ⟨[(.int .u8 k), (.slice A l c), (.int .i64 i)]⟩ 30)) := Fr.alloc _ _
  refine (shown_ok _).use ?_
  rintro v w1 ⟨rfl, f1⟩
  have b1 := b0.fr f1 (fun h => h)
  refine ⟨_, rfl, i, by rw [b1.cell]; rfl, ?_⟩
  refine (nil_take i w1).use ?_
  rintro v _ ⟨rfl, rfl⟩
  refine ⟨_, _, _, _, rfl, i, by rw [b1.cell]; rfl, ?_⟩
  refine (nil_peek i _).use ?_
  rintro v _ ⟨rfl, rfl⟩
  refine ⟨_, _, _, _, rfl, cT rfl ⟨A, l, c, by rw [b1.cell]; rfl, ?_⟩⟩
  refine (nil_send A l c _).use ?_
  rintro v _ ⟨rfl, rfl⟩
  refine ⟨_, rfl, cT rfl (cT rfl (cT rfl ⟨i, by rw [b1.cell]; rfl, ?_⟩))⟩
  refine (nil_lose i _).use ?_
  rintro v _ ⟨rfl, rfl⟩
  refine ⟨_, rfl, cT rfl ?_⟩
  refine (nil_len _).use ?_
  rintro v _ ⟨rfl, rfl⟩
  exact ⟨_, rfl, rfl, f0.trans' f1⟩

/-! ### A network of the law's own -/
def NetIn (B : Nat) (w : World) (b : Nat) (L : List (List UInt8)) : Prop := NetAt w (bw B w) b L
theorem NetIn.fr {B : Nat} {w w' : World} {b : Nat} {L : List (List UInt8)} (h : NetIn B w b L) (hf : Fr none1 w w') : NetIn B w' b L :=
  (NetAt.fr h hf fun _ _ _ h => h).mono fun k hk h => ⟨h.1, hk⟩
theorem bw_mono {B : Nat} {w w' : World} (h : w.heap.size ≤ w'.heap.size) {k : Nat} (hk : bw B w k) : bw B w' k := ⟨hk.1, Nat.lt_of_lt_of_le hk.2 h⟩
theorem newB {B : Nat} {w : World} (hB : B ≤ w.heap.size) : Ret Try.prog 9 [] w fun v w' => ∃ b, v = .pointer (some ⟨b, 0, none⟩) ∧ NetIn B w' b [] ∧ Fr none1 w w' :=
  (new_ok w).imp fun v w' ⟨h1, h2, h3⟩ => ⟨_, h1, h2.mono fun k hk h => ⟨Nat.le_trans hB h, hk⟩, h3⟩
theorem sendB {B : Nat} {w : World} {ok2 : Nat → Prop} {b : Nat} {L : List (List UInt8)} (h : NetIn B w b L) (hB : B ≤ w.heap.size) {A : Option Addr} {l c : Nat} {xs : List UInt8} (hl : xs.length = l) (hb : xs.length ≤ 140737488351232) (hr : Rd w ok2 A (bvs xs)) :
    Ret Try.prog 11 [.pointer (some ⟨b, 0, none⟩), .slice A l c] w fun v w' => Bel B w w' ∧ ∃ e : Int, v = .int .i64 e ∧
      ((1024 ≤ L.length ∧ e = 4 ∧ NetIn B w' b L) ∨ (L.length < 1024 ∧ e = 0 ∧ NetIn B w' b (L ++ [xs]))) :=
  (send_ok h hl hb hr).imp fun v w' h' => by
    rcases h' with ⟨h1, h2, rfl⟩ | ⟨h1, h2, h3, h4⟩
    · exact ⟨Fr.refl _ _, 4, h2, .inl ⟨h1, rfl, h⟩⟩
    · refine ⟨h4.bel fun k hk => hk.1, 0, h2, .inr ⟨h1, rfl, h3.mono fun k hk h => ?_⟩⟩
      rcases h with h | h
      · exact ⟨h.1, hk⟩
      · exact ⟨Nat.le_trans hB h, hk⟩
theorem takeB {B : Nat} {w : World} {b : Nat} {L : List (List UInt8)} (h : NetIn B w b L) (hL : L.length ≤ 1024) (i : Int) : Ret Try.prog 12 [.pointer (some ⟨b, 0, none⟩), .int .i64 i] w fun v w' => Bel B w w' ∧
    match look L i with
      | some xs => ∃ A' c', v = .tuple ⟨[Value.slice A' xs.length c', .bool true]⟩ ∧ Own w' 5 1 (from1 w.heap.size) A' xs.length c' (bvs xs) ∧ NetIn B w' b (L.eraseIdx i.toNat)
      | none => v = .tuple ⟨[Value.slice none 0 0, .bool false]⟩ ∧ NetIn B w' b L :=
  (take_ok h hL i).imp fun v w' h' => by
    cases hlk : look L i with
    | none =>
      rw [hlk] at h'
      obtain ⟨h1, h2, h3⟩ := h'
      exact ⟨h3.bel0, h1, h2.mono fun k hk h => ⟨h.1, hk⟩⟩
    | some xs =>
      rw [hlk] at h'
      obtain ⟨A', c', h1, h2, h3, h4⟩ := h'
      exact ⟨h4.bel fun k hk => hk.1, A', c', h1, h2, h3.mono fun k hk h => ⟨h.1, hk⟩⟩
theorem loseB {B : Nat} {w : World} {b : Nat} {L : List (List UInt8)} (h : NetIn B w b L) (hL : L.length ≤ 1024) (i : Int) : Ret Try.prog 18 [.pointer (some ⟨b, 0, none⟩), .int .i64 i] w fun v w' => Bel B w w' ∧
    match look L i with
      | some xs => v = .bool true ∧ NetIn B w' b (L.eraseIdx i.toNat)
      | none => v = .bool false ∧ NetIn B w' b L :=
  (lose_ok h hL i).imp fun v w' h' => by
    cases hlk : look L i with
    | none =>
      rw [hlk] at h'
      obtain ⟨h1, h2, h3⟩ := h'
      exact ⟨h3.bel0, h1, h2.mono fun k hk h => ⟨h.1, hk⟩⟩
    | some xs =>
      rw [hlk] at h'
      obtain ⟨h1, h3, h4⟩ := h'
      exact ⟨h4.bel fun k hk => hk.1, h1, h3.mono fun k hk h => ⟨h.1, hk⟩⟩
theorem Rd.none {w : World} (ok : Nat → Prop) (A : Option Addr) : Rd w ok A (bvs []) := .inl rfl
theorem mapsto_bool {b c : Bool} (h : b = c) : Value.bool b = .bool c := by rw [h]

/-- NetFull, behind its loops. -/
theorem full_end {W : World} {b : Nat} {lost : Bool} {w : World} {L : List (List UInt8)} (hL : L.length = 1024) (hn : NetIn W.heap.size w b L) (hb : Bel W.heap.size W w) :
    S7_k6 lost true (some ⟨b, 0, none⟩) w fun v w' => v = .bool true ∧ Fr none1 W w' := by
  refine (sendB hn hb.size (xs := []) rfl (by decide) (Rd.none none1 none)).use ?_
  rintro v w1 ⟨f1, e, rfl, hx⟩
  obtain ⟨rfl, n1⟩ : e = 4 ∧ NetIn W.heap.size w1 b L := by
    rcases hx with ⟨_, h⟩ | ⟨h, _⟩
    · exact h
    · omega
  clear hx
  refine ⟨_, rfl, cF rfl ?_⟩
  refine (len_ok n1).use ?_
  rintro v _ ⟨rfl, rfl⟩
  have g1 := hb.trans' f1
  refine ⟨_, rfl, cF (by rw [hL]; rfl) ?_⟩
  have e0 : ∃ x, look L 0 = some x := by
    unfold look; rw [if_pos (Int.le_refl 0)]
    exact ⟨L[0]'(by omega), by simp⟩
  have last : ∀ (w2 : World) (L2 : List (List UInt8)), NetIn W.heap.size w2 b L2 → L2.length < 1024 → Bel W.heap.size W w2 → S7_k12 true (some ⟨b, 0, none⟩) w2 fun v w' => v = .bool true ∧ Fr none1 W w' := by
    intro w2 L2 n2 h2 g2
    refine cT rfl ?_
    refine (sendB n2 g2.size (xs := []) rfl (by decide) (Rd.none none1 none)).use ?_
    rintro v w3 ⟨f3, e, rfl, ⟨h, _⟩ | ⟨_, rfl, n3⟩⟩
    · omega
    exact ⟨_, rfl, rfl, (g2.trans' f3).top⟩
  have sz : (L.eraseIdx (Int.toNat 0)).length = 1023 := by rw [List.length_eraseIdx]; simp [hL]
  cases lost with
  | true =>
    refine cT rfl ?_
    refine (loseB n1 (by omega) 0).use ?_
    obtain ⟨x, hx⟩ := e0
    rw [hx]
    rintro v w2 ⟨f2, rfl, n2⟩
    refine ⟨_, rfl, cF rfl ?_⟩
    refine (takeB n2 (by omega) 0).use ?_
    rintro v w3 ⟨f3, h3⟩
    cases hlk : look (L.eraseIdx (Int.toNat 0)) 0 with
    | none =>
      rw [hlk] at h3; obtain ⟨rfl, n3⟩ := h3
      refine ⟨_, _, _, _, rfl, cF rfl (cF rfl ?_)⟩
      exact last w3 _ n3 (by omega) ((g1.trans' f2).trans' f3)
    | some y =>
      rw [hlk] at h3; obtain ⟨A', c', rfl, _, n3⟩ := h3
      refine ⟨_, _, _, _, rfl, cF rfl (cF rfl ?_)⟩
      refine last w3 _ n3 ?_ ((g1.trans' f2).trans' f3)
      have := List.length_eraseIdx_le (L.eraseIdx (Int.toNat 0)) (Int.toNat 0)
      omega
  | false =>
    refine cF rfl (cF rfl ?_)
    refine (takeB n1 (by omega) 0).use ?_
    obtain ⟨x, hx⟩ := e0
    rw [hx]
    rintro v w3 ⟨f3, A', c', rfl, _, n3⟩
    refine ⟨_, _, _, _, rfl, cT rfl (cF rfl ?_)⟩
    exact last w3 _ n3 (by omega) (g1.trans' f3)
theorem netFull_ok (m : Int) (hm : 0 ≤ m ∧ m < 256) (lost : Bool) (W : World) : Ret Try.prog 7 [(.int .u8 m), (.bool lost)] W fun v w' => v = .bool true ∧ Fr none1 W w' := by
  apply S7_calls
  refine (shown_ok _).use ?_
  rintro v w1 ⟨rfl, f1⟩
  refine ⟨_, rfl, ?_⟩
  refine (newB (B := W.heap.size) f1.size).use ?_
  rintro v w2 ⟨b, rfl, n2, f2⟩
  refine ⟨_, rfl, cF rfl ?_⟩
  refine ⟨by decide, ?_⟩
  have hq : 0 ≤ Int.tmod m 201 ∧ Int.tmod m 201 < 201 := ⟨Int.tmod_nonneg _ hm.1, Int.tmod_lt_of_pos _ (by decide)⟩
  rw [IntWalk.i64_in (Int.tmod m 201) (by omega)]
  generalize Int.tmod m 201 = q at hq
  rw [IntWalk.i64_in (1024 - q) (by omega)]
  have g2 : Bel W.heap.size W w2 := f1.bel0.trans' f2.bel0
  refine ⟨fun s w' => 0 ≤ s.1 ∧ s.1 ≤ 1024 - q ∧ ∃ L, (L.length : Int) = s.1 ∧ NetIn W.heap.size w' b L ∧ Bel W.heap.size W w', fun s _ => (1024 - q - s.1).toNat, ⟨Int.le_refl 0, by omega, [], rfl, n2, g2⟩, ?_⟩
  rintro J ⟨i, ⟨⟩⟩ w' ⟨h0, h1, L, hL, hn, g⟩
  dsimp only at h0 h1 hL ⊢
  refine cD (fun hi => ?_) (fun hi => ?_)
  · have lit := Own.lit w' 5 1 1 [.int .u8 (IntKind.u8.wrap i)] rfl (by simp [maxLen])
    have hbv : [Value.int .u8 (IntKind.u8.wrap i)] = bvs [UInt8.ofNat (IntKind.u8.wrap i).toNat] := by
      have : 0 ≤ IntKind.u8.wrap i ∧ IntKind.u8.wrap i < 256 := by unfold IntKind.wrap; simp [IntKind.bits, IntKind.signed]; omega
      simp [bvs, bv]; omega
    have a0 : Fr none1 w' (w'.alloc (.cells ⟨[.int .u8 (IntKind.u8.wrap i)]⟩ 5)) := Fr.alloc _ _
    refine (sendB (hn.fr a0) (Nat.le_trans g.size a0.size) (xs := [UInt8.ofNat (IntKind.u8.wrap i).toNat]) rfl (by simp) (ok2 := fun k => k = w'.heap.size) (by have := lit.rd; rw [hbv] at this ⊢; exact this)).use ?_
    rintro v w3 ⟨f3, e, rfl, ⟨h, _⟩ | ⟨_, rfl, n3⟩⟩
    · omega
    refine ⟨_, rfl, cF rfl ⟨⟨?_, ?_, _, ?_, n3, ((g.trans' a0.bel0).trans' f3)⟩, ?_⟩⟩
    all_goals rw [IntWalk.i64_in (i + 1) (by omega)]
    · omega
    · omega
    · simp; omega
    · simp; omega
  · have hi2 : i = 1024 - q := by omega
    subst hi2
    refine ⟨fun s w' => 0 ≤ s.1 ∧ s.1 ≤ q ∧ ∃ L, (L.length : Int) = 1024 - q + s.1 ∧ NetIn W.heap.size w' b L ∧ Bel W.heap.size W w', fun s _ => (q - s.1).toNat, ⟨Int.le_refl 0, by omega, L, by omega, hn, g⟩, ?_⟩
    rintro J ⟨j, ⟨⟩⟩ w4 ⟨h0, h1, L, hL, hn, g⟩
    dsimp only at h0 h1 hL ⊢
    rw [IntWalk.i64_in (1024 - (1024 - q)) (by omega)]
    refine cD (fun hi => ?_) (fun hi => ?_)
    · refine (sendB hn g.size (xs := []) rfl (by decide) (Rd.none none1 none)).use ?_
      rintro v w3 ⟨f3, e, rfl, ⟨h, _⟩ | ⟨_, rfl, n3⟩⟩
      · omega
      refine ⟨_, rfl, cF rfl ⟨⟨?_, ?_, _, ?_, n3, g.trans' f3⟩, ?_⟩⟩
      all_goals rw [IntWalk.i64_in (j + 1) (by omega)]
      · omega
      · omega
      · simp; omega
      · simp; omega
    · exact full_end (by omega) hn g
end Go.Proofs
