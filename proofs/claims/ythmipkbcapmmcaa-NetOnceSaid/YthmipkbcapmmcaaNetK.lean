import Derived.Test.YthmipkbcapmmcaaNetJ
import Derived.Test.YthmipkbcapmmcaaMapK
set_option linter.unusedVariables false
namespace Go.Proofs
open Go Go.Eng
theorem U3' : Try.prog.underlying 3 = some (.int .i64) := by kernel_rfl
theorem U26 : Try.prog.underlying 26 = some (.map 9 3) := by kernel_rfl
theorem Z3 (w : World) : (zeroValue 3).run Try.prog w = .ok (.int .i64 0) w := by kernel_rfl
theorem K9 : Maps.Keyed Try.prog 9 := Maps.string_keyed U9
theorem count_erase' : ∀ (L : List (List UInt8)) (n : Nat) (x y : List UInt8), L[n]? = some x → ((L.eraseIdx n).count y : Int) = L.count y - (if x = y then 1 else 0)
  | [], n, x, y, h => by simp at h
  | a :: L, 0, x, y, h => by
    simp at h; subst h
    rw [List.eraseIdx_cons_zero, List.count_cons]
    split <;> simp_all
  | a :: L, n + 1, x, y, h => by
    simp at h
    have := count_erase' L n x y h
    rw [List.eraseIdx_cons_succ, List.count_cons, List.count_cons]
    omega
theorem count_pos' {L : List (List UInt8)} {n : Nat} {x : List UInt8} (h : L[n]? = some x) : (1 : Int) ≤ L.count x := by
  have := List.count_pos_iff.2 (List.mem_of_getElem? h)
  omega
def CountAt (w : World) (m n : Nat) (L : List (List UInt8)) : Prop := MapAt w Try.prog 9 3 m n (strK fun xs => (L.count xs : Int))
theorem CountAt.look {w : World} {m n : Nat} {L : List (List UInt8)} (h : CountAt w m n L) {xs : List UInt8} (hx : xs.length ≤ maxLen) : (Instr.lookup 26 (.map (some m)) (.string (str xs)) false).run Try.prog w = .ok (.int .i64 (L.count xs : Int)) w :=
  MapAt.lookup h K9 U26 U3' Z3 (key_str U9 hx) trivial
theorem CountAt.turn {w : World} {m n : Nat} {L L' : List (List UInt8)} (h : CountAt w m n L) {xs : List UInt8} (hx : xs.length ≤ maxLen) (hn : n ≤ 100000) {v : Int} (hv : v = (L'.count xs : Int)) (hb : (L'.length : Int) ≤ 100000) (ho : ∀ ys, ys ≠ xs → (L'.count ys : Int) = L.count ys) :
    ∃ w', (Instr.mapUpdate 26 (.map (some m)) (.string (str xs)) (.int .i64 v)).run Try.prog w = .ok () w' ∧ CountAt w' m (n + 1) L' ∧ Fr (fun b => b = m) w w' := by
  have hc : L'.count xs ≤ L'.length := List.count_le_length
  refine MapAt.update h K9 U26 U3' (by simp only [maxLen]; omega) (key_str U9 hx) trivial ?_ ?_ ?_
  · subst hv; simp [Lit.wf, IntKind.min, IntKind.max, IntKind.bits, IntKind.signed]; omega
  · exact hv.symm
  · intro l hl
    cases l <;> try rfl
    rename_i ys
    exact ho ys (fun e => hl (by rw [e]))
theorem CountAt.fr {w w' : World} {m n : Nat} {L : List (List UInt8)} {F : Nat → Prop} {ts : List Nat} (h : CountAt w m n L) (hf : Fr F w w') (hF : ∀ k, F k → hasTy w ts k) : CountAt w' m n L :=
  MapAt.fr h hf fun hm => MapAt.notTy h ts (hF _ hm)
theorem CountAt.fr0 {w w' : World} {m n : Nat} {L : List (List UInt8)} (h : CountAt w m n L) (hf : Fr none1 w w') : CountAt w' m n L := MapAt.fr h hf fun h => h
theorem NetIn.frM {B : Nat} {w w' : World} {b m n : Nat} {L L' : List (List UInt8)} (h : NetIn B w b L) (hm : CountAt w m n L') (hf : Fr (fun k => k = m) w w') : NetIn B w' b L :=
  (NetAt.fr (NetAt.tight h) hf fun k hk ho e => by subst e; exact MapAt.notTy hm _ ho.2).mono fun k hk h => ⟨h.1.1, hk⟩
theorem Blk.frM {w w' : World} {b t m n : Nat} {vs : List Value} {L' : List (List UInt8)} (h : Blk w b t vs) (hm : CountAt w m n L') (hf : Fr (fun k => k = m) w w') : Blk w' b t vs :=
  h.fr hf fun e => by subst e; exact MapAt.notTy hm [t] (h.hasTy (by simp))
section
variable {W : World} {b m : Nat}
def Cnt (B : Nat) (w : World) (b m n : Nat) (L : List (List UInt8)) : Prop := NetIn B w b L ∧ CountAt w m n L ∧ B ≤ m
theorem Cnt.fr0 {B : Nat} {w w' : World} {b m n : Nat} {L : List (List UInt8)} (h : Cnt B w b m n L) (f : Fr none1 w w') : Cnt B w' b m n L := ⟨h.1.fr f, h.2.1.fr0 f, h.2.2⟩
/-- The loop that takes all that is left. -/
theorem once_last {w : World} {L : List (List UInt8)} {n : Nat} (h : Cnt W.heap.size w b m n L) (g : Bel W.heap.size W w) (hL : L.length ≤ 100) (hn : n ≤ 1000) : S3_k6 true (some ⟨b, 0, none⟩) (some m) (L.length : Int) w (Done W) := by
  refine ⟨fun s w' => ∃ (i n' : Nat) (L' : List (List UInt8)), s.1 = (i : Int) ∧ i + L'.length = L.length ∧ n' ≤ 1000 + i ∧ Cnt W.heap.size w' b m n' L' ∧ Bel W.heap.size W w', fun s _ => L.length - s.1.toNat, ⟨0, n, L, rfl, by omega, by omega, h, g⟩, ?_⟩
  rintro J ⟨i', ⟨⟩⟩ w1 ⟨i, n', L', hi, hlen, hn', ⟨N1, M1, hm⟩, g1⟩
  dsimp only at hi ⊢
  subst hi
  refine cD (fun hlt => ?_) (fun hlt => ?_)
  · refine (len_ok N1).use ?_
    rintro v w1 ⟨rfl, rfl⟩
    refine ⟨_, rfl, ?_⟩
    rw [IntWalk.i64_in ((L'.length : Int) - 1) (by omega)]
    refine (takeT N1 (by omega) _).use ?_
    rintro v w2 ⟨f2, ⟨A2, c2, rfl, o2⟩, N2⟩
    have e1 : (L'.length : Int) - 1 = ((L'.length - 1 : Nat) : Int) := by omega
    have hx : L'[L'.length - 1]? = some L'[L'.length - 1] := List.getElem?_eq_getElem (by omega)
    rw [e1, look_nat, hx] at o2 N2 ⊢
    simp only [Option.getD_some, Option.isSome_some, if_true, Int.toNat_natCast] at o2 N2 ⊢
    have M2 := M1.fr f2 (fun k hk => hk.2)
    have N2' : NetIn W.heap.size w2 b (L'.eraseIdx (L'.length - 1)) := NetAt.mono N2 fun k hk h => ⟨h.1, hk⟩
    have hts : (convert 28 9 (.slice A2 L'[L'.length - 1].length c2)).run Try.prog w2 = .ok (.string (str L'[L'.length - 1])) w2 := run_toString U28 U5 U9 rfl o2.rd
    refine ⟨_, _, _, _, rfl, cF rfl ⟨_, _, hts, _, _, M2.look o2.max, ?_⟩⟩
    have hp := count_pos' hx
    have hc : L'.count L'[L'.length - 1] ≤ L'.length := List.count_le_length
    have hlen2 : (L'.eraseIdx (L'.length - 1)).length = L'.length - 1 := by rw [List.length_eraseIdx, if_pos (by omega)]
    refine cF (by simp; omega) ⟨_, _, hts, _, _, M2.look o2.max, ?_⟩
    rw [IntWalk.i64_in ((L'.count _ : Int) - 1) (by omega), IntWalk.i64_in ((i : Int) + 1) (by omega)]
    obtain ⟨w3, r3, M3, f3⟩ := M2.turn (L' := L'.eraseIdx (L'.length - 1)) (xs := L'[L'.length - 1]) (v := (L'.count L'[L'.length - 1] : Int) - 1) o2.max (by omega) (by rw [count_erase' L' _ _ _ hx, if_pos rfl]) (by omega)
      (fun ys hy => by rw [count_erase' L' _ _ _ hx, if_neg (fun e => hy e.symm)]; omega)
    exact ⟨w3, r3, ⟨i + 1, n' + 1, _, rfl, by omega, by omega, ⟨N2'.frM M2 f3, M3, hm⟩, (g1.trans' (f2.bel fun k hk => hk.1.1)).trans' (f3.bel fun k hk => hk ▸ hm)⟩, by dsimp only; omega⟩
  · refine cT rfl ?_
    refine (len_ok N1).use ?_
    rintro v w1 ⟨rfl, rfl⟩
    exact ⟨_, rfl, by rw [show L'.length = 0 by omega]; rfl, g1.top⟩
theorem netOnce_ok {A : Option Addr} {l c : Nat} {al : List Act} (h : RowAt W.heap.size 3 (ActQ W W.heap.size) A al) (hl : al.length = l) (hc : l ≤ c) : Ret Try.prog 3 [.slice A l c] W (Done W) := by
  apply S3_calls
  refine (shown_ok _).use ?_
  rintro v w1 ⟨rfl, f1⟩
  refine ⟨_, rfl, ?_⟩
  refine (newB (B := W.heap.size) f1.size).use ?_
  rintro v w2 ⟨b, rfl, n2, f2⟩
  refine ⟨_, rfl, cF rfl ?_⟩
  have gg : Bel W.heap.size W w2 := f1.bel0.trans' f2.bel0
  have a0 : Fr none1 w2 (w2.alloc (.map #[] 0)) := Fr.alloc _ _
  have m2 : CountAt (w2.alloc (.map #[] 0)) w2.heap.size 0 [] := by
    have h := MapAt.made w2 Try.prog 9 3
    have e : (strK fun xs => (([] : List (List UInt8)).count xs : Int)) = fun _ => 0 := by
      funext l; cases l <;> rfl
    unfold CountAt
    rw [e]; exact h
  have n2' := n2.fr a0
  have g2 := gg.trans' a0.bel0
  have hm := gg.size
  show Calls Try.prog 10 ⟨[.slice A l c]⟩ (w2.alloc (.map #[] 0)) _
  generalize hr : w2.heap.size = m at m2 hm
  generalize w2.alloc (.map #[] 0) = w2 at m2 n2' g2 ⊢
  have h2 : RowAt W.heap.size 3 (ActQ w2 W.heap.size) A al := fun j x hx => by
    obtain ⟨a, ha, hb, hq⟩ := h j x hx
    exact ⟨a, ha, hb, hq.fr (Nat.le_refl _) (by rw [add_block]; exact hb) g2⟩
  refine (few_ok h2 hl hc).use ?_
  rintro v w2 ⟨rfl, l', c', bs, rfl, hbl, hb100, hrow, hsmall⟩
  refine ⟨_, _, _, rfl, ?_⟩
  refine ⟨fun s w' => ∃ (n k : Nat) (L : List (List UInt8)), s.2.1 = (n : Int) ∧ n ≤ l' ∧ L.length ≤ n ∧ k ≤ 2 * n ∧ s.1 = (L.length : Int) ∧ Bel W.heap.size w2 w' ∧ Cnt W.heap.size w' b m k L, fun s _ => l' - s.2.1.toNat, ⟨0, 0, [], rfl, Nat.zero_le _, Nat.zero_le _, Nat.zero_le _, rfl, Fr.refl _ _, n2', m2, hm⟩, ?_⟩
  rintro J ⟨all, j, ⟨⟩⟩ w3 ⟨n, k, L, hj, hn, hLn, hk, hall, g3, C3⟩
  dsimp only at hj hall ⊢
  subst hj hall
  have gW := g2.trans' g3
  refine cD (fun hlt => ?_) (fun hlt => ?_)
  · have hlt' : n < l' := by omega
    have hx : bs[n]? = some bs[n] := List.getElem?_eq_getElem (by omega)
    obtain ⟨a, ha, hab, hq⟩ := hrow n _ hx
    obtain ⟨A', d', q1, q2, q3, q4, q5, q6, q7⟩ := hq.fr g2.size (by rw [add_block]; exact hab) g3
    have hsm := hsmall _ (List.mem_of_getElem? hx)
    refine ⟨a, ha, by omega, by omega, _, by rw [Int.toNat_natCast]; exact q1, _, _, _, by rw [Int.toNat_natCast]; exact q2, _, by rw [Int.toNat_natCast]; exact q3, ?_⟩
    obtain ⟨p1, p2, p3, p4, p5, p6, b4, f4⟩ := cp3 w3 30 (.int .u8 0) (.slice none 0 0) (.int .i64 0) (.int .u8 bs[n].1) (.slice A' bs[n].2.1.length d') (.int .i64 bs[n].2.2)
    refine ⟨p1, p2, p3, p4, p5, p6, ?_⟩
    generalize World.setCell _ _ _ = w4 at b4 f4 ⊢
    have g4 := g3.trans' f4.bel0
    have hB4 : W.heap.size ≤ w4.heap.size := (gW.trans' f4.bel0).size
    have q4' := q4.fr f4 (fun _ _ _ h => h)
    obtain ⟨N4, M4, _⟩ := C3.fr0 f4
    refine ⟨_, by rw [b4.cell]; rfl, by decide, ?_⟩
    -- the end of a step
    have fin : ∀ (w5 : World) (L' : List (List UInt8)) (k' : Nat) (B1 : Int × Int × Unit → World → Prop), Bel W.heap.size w4 w5 → L'.length ≤ n + 1 → k' ≤ 2 * (n + 1) → Cnt W.heap.size w5 b m k' L' →
        (∀ s w', ((∃ (n k : Nat) (L : List (List UInt8)), s.2.1 = (n : Int) ∧ n ≤ l' ∧ L.length ≤ n ∧ k ≤ 2 * n ∧ s.1 = (L.length : Int) ∧ Bel W.heap.size w2 w' ∧ Cnt W.heap.size w' b m k L) ∧ l' - s.2.1.toNat < l' - (n : Int).toNat) → B1 s w') →
        S3_k4 true (some ⟨b, 0, none⟩) (some m) (L'.length : Int) A l' c' (l' : Int) (n : Int) w5 (Done W) B1 := by
      intro w5 L' k' B1 g5 h5 hk' C5 hB
      refine (len_ok C5.1).use ?_
      rintro v w5 ⟨rfl, rfl⟩
      refine ⟨_, rfl, cF (by simp) ?_⟩
      rw [IntWalk.i64_in ((n : Int) + 1) (by omega)]
      exact hB _ _ ⟨⟨n + 1, k', L', rfl, by omega, h5, hk', rfl, g4.trans' g5, C5⟩, by dsimp only; omega⟩
    refine cD (fun h0 => ?_) (fun h0 => cD (fun h1 => ?_) (fun h1 => cD (fun h3 => ?_) (fun h3 => ?_)))
    · refine ⟨_, _, _, by rw [b4.cell]; rfl, ?_⟩
      refine (sendT N4 (xs := bs[n].2.1) rfl (by omega) q4').use ?_
      rintro v w5 ⟨f5, e, rfl, ⟨_, _, _⟩ | ⟨_, rfl, n5⟩⟩
      · omega
      refine ⟨_, rfl, cF rfl ?_⟩
      have b5 := b4.fr f5 (fun h => b4.notTy (by decide) h.2)
      have M5 := M4.fr f5 (fun k hk => hk.2)
      have N5 : NetIn W.heap.size w5 b (L ++ [bs[n].2.1]) := n5.mono fun k hk h => ⟨by
        rcases h with h | h
        · exact h.1
        · omega, hk⟩
      have q5' := q4'.fr f5 (fun k hk h1 h2 => by have := h2.1.1; omega)
      have hmx : bs[n].2.1.length ≤ maxLen := by simp only [maxLen]; omega
      have hc : L.count bs[n].2.1 ≤ L.length := List.count_le_length
      refine ⟨_, _, _, by rw [show (⟨w3.heap.size, 0, none⟩ : Addr).add 1 = ⟨w3.heap.size, 1, none⟩ from rfl, b5.cell]; rfl, _, _, run_toString U28 U5 U9 rfl q5', _, _, M5.look hmx, ?_⟩
      rw [IntWalk.i64_in ((L.count _ : Int) + 1) (by omega), IntWalk.i64_in ((L.length : Int) + 1) (by omega)]
      obtain ⟨w6, r6, M6, f6⟩ := M5.turn (L' := L ++ [bs[n].2.1]) (xs := bs[n].2.1) (v := (L.count bs[n].2.1 : Int) + 1) hmx (by omega) (by simp) (by simp; omega) (fun ys hy => by simp [List.count_append, hy.symm])
      refine ⟨w6, r6, ?_⟩
      have := fin w6 (L ++ [bs[n].2.1]) (k + 1) _ ((f5.bel fun k hk => hk.1.1).trans' (f6.bel fun k hk => hk ▸ hm)) (by simp; omega) (by omega) ⟨N5.frM M5 f6, M6, hm⟩ (fun s w' h => h)
      simpa using this
    · refine ⟨_, by rw [b4.cell]; rfl, ?_⟩
      refine (takeT N4 (by omega) _).use ?_
      rintro v w5 ⟨f5, ⟨A5, c5, rfl, o5⟩, N5⟩
      have M5 := M4.fr f5 (fun k hk => hk.2)
      have g5 : Bel W.heap.size w4 w5 := f5.bel fun k hk => hk.1.1
      cases hlk : look L bs[n].2.2 with
      | none =>
        rw [hlk] at o5 N5
        have N5' : NetIn W.heap.size w5 b L := NetAt.mono N5 fun k hk h => ⟨h.1, hk⟩
        exact ⟨_, _, _, _, rfl, cF rfl (fin w5 L k _ g5 (by omega) (by omega) ⟨N5', M5, hm⟩ (fun s w' h => h))⟩
      | some xs =>
        rw [hlk] at o5 N5
        obtain ⟨i, e0, hi, hget⟩ := look_some hlk
        rw [e0] at N5
        simp only [Option.getD_some, Option.isSome_some, if_true, Int.toNat_natCast] at o5 N5 ⊢
        have N5' : NetIn W.heap.size w5 b (L.eraseIdx i) := NetAt.mono N5 fun k hk h => ⟨h.1, hk⟩
        have hts : ∀ w6, Fr (fun k => k = m) w5 w6 → (convert 28 9 (.slice A5 xs.length c5)).run Try.prog w6 = .ok (.string (str xs)) w6 := fun w6 f6 => run_toString U28 U5 U9 rfl (o5.fr1 f6 (fun a ha e => MapAt.notTy M5 [5] (by obtain ⟨cur, hc⟩ := o5.obj a ha; rw [e] at hc; exact ⟨cur, 5, hc, by decide⟩))).rd
        have hp := count_pos' hget
        have hc : L.count xs ≤ L.length := List.count_le_length
        refine ⟨_, _, _, _, rfl, cT rfl ⟨_, _, hts w5 (Fr.refl _ _), _, _, M5.look o5.max, ?_⟩⟩
        rw [IntWalk.i64_in ((L.count _ : Int) - 1) (by omega), IntWalk.i64_in ((L.length : Int) - 1) (by omega)]
        have hlen2 : (L.eraseIdx i).length = L.length - 1 := by rw [List.length_eraseIdx, if_pos hi]
        have hcx := count_erase' L i xs xs hget
        rw [if_pos rfl] at hcx
        obtain ⟨w6, r6, M6, f6⟩ := M5.turn (L' := L.eraseIdx i) (xs := xs) (v := (L.count xs : Int) - 1) o5.max (by omega) hcx.symm (by omega)
          (fun ys hy => by rw [count_erase' L _ _ _ hget, if_neg (fun e => hy e.symm)]; omega)
        refine ⟨w6, r6, _, _, hts w6 f6, _, _, M6.look o5.max, cF (by simp) ?_⟩
        have := fin w6 (L.eraseIdx i) (k + 1) _ (g5.trans' (f6.bel fun k hk => hk ▸ hm)) (by omega) (by omega) ⟨N5'.frM M5 f6, M6, hm⟩ (fun s w' h => h)
        rwa [show ((L.eraseIdx i).length : Int) = (L.length : Int) - 1 by omega] at this
    · refine ⟨_, by rw [b4.cell]; rfl, ?_⟩
      refine (peekT N4 _).use ?_
      rintro v w5 ⟨⟨A5, c5, rfl, o5⟩, f5⟩
      have C5 : Cnt W.heap.size w5 b m k L := Cnt.fr0 ⟨N4, M4, hm⟩ f5
      have last := fin w5 L k _ f5.bel0 (by omega) (by omega) C5 (fun s w' h => h)
      cases hlk : look L bs[n].2.2 with
      | none => exact ⟨_, _, _, _, rfl, cF rfl (cF rfl last)⟩
      | some xs =>
        rw [hlk] at o5
        obtain ⟨i, e0, hi, hget⟩ := look_some hlk
        have hp := count_pos' hget
        exact ⟨_, _, _, _, rfl, cT rfl ⟨_, _, run_toString U28 U5 U9 rfl o5.rd, _, _, C5.2.1.look o5.max, cF (by simp; omega) last⟩⟩
    · exact fin w4 L k _ (Fr.refl _ _) (by omega) (by omega) ⟨N4, M4, hm⟩ (fun s w' h => h)
  · exact once_last C3 gW (by omega) (by omega)
end
end Go.Proofs
