/- Queues that age: AgingBound. -/
import Derived.Test.YtkighcolplcnbaaAgV12
set_option linter.unusedVariables false
namespace Go.Proofs
open Go Go.Eng
/-! ### Without the program -/
def bpI (ws : List Wt) : Int → Option Int := fun a => (ws.find? (isI a)).map (·.bp)
def mapV (F : Int → Option Int) : Int → Option Value := fun a => (F a).map (Value.int .i64)
def updF (F : Int → Option Int) (a : Int) (v : Option Int) : Int → Option Int := fun i => if i = a then v else F i
theorem updI_mapV (F : Int → Option Int) (a : Int) (v : Option Int) : updI (mapV F) a (v.map (Value.int .i64)) = mapV (updF F a v) := by
  funext i
  unfold updI mapV updF
  split <;> rfl
theorem find_none_of {ws : List Wt} {a : Int} (h : ∀ x ∈ ws, x.id ≠ a) : ws.find? (isI a) = none := by
  rw [List.find?_eq_none]
  intro x hx
  have : isI a x = false := decide_eq_false (h x hx)
  rw [this]; decide
theorem bpI_mem {ws : List Wt} {a : Int} {v : Int} (h : bpI ws a = some v) : ∃ x ∈ ws, x.id = a ∧ x.bp = v := by
  unfold bpI at h
  cases hf : ws.find? (isI a) with
  | none => rw [hf] at h; cases h
  | some x =>
    rw [hf] at h
    have h1 := List.mem_of_find?_eq_some hf
    have h2 := List.find?_some hf
    exact ⟨x, h1, of_decide_eq_true h2, Option.some.inj h⟩
theorem bpI_at {Q : Que} (hR : Rise Q) {x : Wt} (hx : x ∈ Q.ws) : bpI Q.ws x.id = some x.bp := by
  unfold bpI
  cases hf : Q.ws.find? (isI x.id) with
  | none =>
    rw [List.find?_eq_none] at hf
    have := hf x hx
    simp [isI] at this
  | some y =>
    have h1 := List.mem_of_find?_eq_some hf
    have h2 := List.find?_some hf
    rw [id_inj hR h1 hx (of_decide_eq_true h2)]
    rfl
theorem bpI_add {Q : Que} (hR : Rise Q) (p : Int) : bpI (Q.ws ++ [⟨Q.n, p, 0⟩]) = updF (bpI Q.ws) Q.n (some 0) := by
  funext a
  unfold updF bpI
  rw [List.find?_append]
  by_cases e : a = (Q.n : Int)
  · subst e
    rw [if_pos rfl, find_none_of fun x hx => by have := (hR.2 x hx).2; omega]
    simp [isI]
  · rw [if_neg e]
    have : isI a ⟨Q.n, p, 0⟩ = false := decide_eq_false fun h => e (by simpa using h.symm)
    simp [this]
theorem bpI_drop {Q : Que} (hR : Rise Q) (n : Int) : bpI (drQ Q n).ws = updF (bpI Q.ws) n none := by
  rw [(drQ_but hR n).1]
  funext a
  unfold updF bpI but
  rw [List.find?_filter]
  by_cases e : a = n
  · subst e
    rw [if_pos rfl]
    have : (fun x => !isI a x && isI a x) = fun _ : Wt => false := by funext x; cases isI a x <;> rfl
    simp [List.find?_eq_none]
  · rw [if_neg e]
    congr 2
    funext x
    by_cases h : x.id = a
    · have h1 : isI a x = true := decide_eq_true h
      have h2 : isI n x = false := decide_eq_false (by omega)
      simp [h1, h2]
    · have h1 : isI a x = false := decide_eq_false h
      simp [h1]
theorem tk_ws {Q : Que} (h : nxB Q = true) : ∃ (A D : List Wt) (x : Wt), Q.ws = A ++ x :: D ∧ x.id = nxI Q ∧ (tkQ Q).ws = A.map up1 ++ D ∧ pl Q = (A.length : Int) := by
  obtain ⟨m, x, hpm, hxm, hid⟩ := nx_at h
  obtain ⟨hm, he⟩ := List.getElem?_eq_some_iff.1 hxm
  refine ⟨Q.ws.take m, Q.ws.drop (m + 1), x, ?_, hid.symm, ?_, ?_⟩
  · rw [← he, List.getElem_cons_drop hm, List.take_append_drop]
  · unfold tkQ
    rw [if_pos h, hpm, Int.toNat_natCast]
    show (bump Q.ws m).eraseIdx m = _
    unfold bump
    have hl : ((Q.ws.take m).map up1).length = m := by rw [List.length_map, List.length_take]; omega
    rw [List.eraseIdx_append_of_length_le (by omega), hl, Nat.sub_self, List.drop_eq_getElem_cons hm, List.eraseIdx_cons_zero]
  · rw [List.length_take, hpm]; omega
theorem find_up1 (A : List Wt) (a : Int) : ((A.map up1).find? (isI a)).map (·.bp) = ((A.find? (isI a)).map (·.bp)).map (· + 1) := by
  rw [List.find?_map]
  have : (isI a ∘ up1) = isI a := rfl
  rw [this]
  cases A.find? (isI a) <;> rfl
theorem bpI_take {Q : Que} (hR : Rise Q) (h : nxB Q = true) : bpI (tkQ Q).ws = fun a => if a < nxI Q then ((updF (bpI Q.ws) (nxI Q) none) a).map (· + 1) else (updF (bpI Q.ws) (nxI Q) none) a := by
  obtain ⟨A, D, x, h1, h2, h3, _⟩ := tk_ws h
  have hp := hR.1
  rw [h1, List.pairwise_append] at hp
  obtain ⟨_, hp2, hp3⟩ := hp
  have hA : ∀ y ∈ A, y.id < nxI Q := fun y hy => by rw [← h2]; exact hp3 y hy x (List.mem_cons_self)
  have hD : ∀ y ∈ D, nxI Q < y.id := fun y hy => by rw [← h2]; exact (List.pairwise_cons.1 hp2).1 y hy
  funext a
  rw [h3, h1]
  unfold updF
  have eL : bpI (A.map up1 ++ D) a = (((A.find? (isI a)).map (·.bp)).map (· + 1)).or ((D.find? (isI a)).map (·.bp)) := by
    unfold bpI
    rw [List.find?_append, ← find_up1]
    cases (A.map up1).find? (isI a) <;> rfl
  have eR : a ≠ nxI Q → bpI (A ++ x :: D) a = ((A.find? (isI a)).map (·.bp)).or ((D.find? (isI a)).map (·.bp)) := fun hne => by
    unfold bpI
    have hx : isI a x = false := decide_eq_false fun e => hne (by rw [← h2, e])
    rw [List.find?_append, List.find?_cons, hx]
    cases A.find? (isI a) <;> rfl
  rw [eL]
  rcases Int.lt_trichotomy a (nxI Q) with ha | ha | ha
  · rw [if_pos ha, if_neg (by omega), eR (by omega), find_none_of (ws := D) fun y hy => by have := hD y hy; omega]
    simp
  · subst ha
    rw [if_neg (by omega), if_pos rfl, find_none_of (ws := A) fun y hy => by have := hA y hy; omega, find_none_of (ws := D) fun y hy => by have := hD y hy; omega]
    rfl
  · rw [if_neg (by omega), if_neg (by omega), eR (by omega), find_none_of (ws := A) fun y hy => by have := hA y hy; omega]
    rfl
/-- Nobody is bypassed more often than step times how much its priority is below the highest. -/
def Bd (Q : Que) : Prop := ∀ x ∈ Q.ws, x.bp ≤ (Q.st : Int) * (5 - x.pr)
theorem bd_take {Q : Que} (hB : Bd Q) : Bd (tkQ Q) := by
  cases h : nxB Q with
  | false => unfold tkQ; rw [h]; exact hB
  | true =>
    obtain ⟨A, D, x, h1, h2, h3, h4⟩ := tk_ws h
    have hst : (tkQ Q).st = Q.st := by unfold tkQ; split <;> rfl
    have hne : Q.ws ≠ [] := fun e => by rw [h1] at e; simp at e
    obtain ⟨i, z, hi, hz, hcase⟩ := pl_spec hne
    have hiA : i = A.length := by omega
    subst hiA
    intro y hy
    rw [hst]
    rw [h3] at hy
    rcases List.mem_append.1 hy with hy | hy
    · obtain ⟨u, hu, rfl⟩ := List.mem_map.1 hy
      obtain ⟨k, hk⟩ := List.getElem?_of_mem hu
      have hkl := (List.getElem?_eq_some_iff.1 hk).1
      have huk : Q.ws[k]? = some u := by rw [h1, List.getElem?_append_left hkl]; exact hk
      have hnd : due Q.st u = false := by
        rcases hcase with ⟨_, h5⟩ | ⟨h5, _⟩
        · exact h5 k u hkl huk
        · exact h5 u (List.mem_of_getElem? huk)
      have := of_decide_eq_false hnd
      show u.bp + 1 ≤ _ * (5 - u.pr)
      omega
    · exact hB y (by rw [h1]; simp [hy])
theorem bd_add {Q : Que} (hB : Bd Q) (p : Int) : Bd (adQ Q p) := by
  unfold adQ
  split
  · rename_i h
    have hp : 0 ≤ p ∧ p ≤ 5 := by
      unfold adE at h
      split at h
      · omega
      · omega
    intro y hy
    show y.bp ≤ (Q.st : Int) * (5 - y.pr)
    rcases List.mem_append.1 hy with hy | hy
    · exact hB y hy
    · rw [List.mem_singleton] at hy
      subst hy
      exact Int.mul_nonneg (by omega) (by show 0 ≤ 5 - p; omega)
  · exact hB
theorem bd_drop {Q : Que} (hB : Bd Q) (n : Int) : Bd (drQ Q n) := by
  unfold drQ
  split
  · exact fun y hy => hB y (List.mem_of_mem_eraseIdx hy)
  · exact hB
def PrOk (P : Int → Option Value) (ws : List Wt) : Prop := ∀ x ∈ ws, P x.id = some (.int .i64 x.pr)
theorem pr_take {P : Int → Option Value} {Q : Que} (h : PrOk P Q.ws) : PrOk P (tkQ Q).ws := by
  cases hb : nxB Q with
  | false => unfold tkQ; rw [hb]; exact h
  | true =>
    obtain ⟨A, D, x, h1, h2, h3, h4⟩ := tk_ws hb
    intro y hy
    rw [h3] at hy
    rcases List.mem_append.1 hy with hy | hy
    · obtain ⟨u, hu, rfl⟩ := List.mem_map.1 hy
      exact h u (by rw [h1]; simp [hu])
    · exact h y (by rw [h1]; simp [hy])
theorem pr_drop {P : Int → Option Value} {Q : Que} (h : PrOk P Q.ws) (n : Int) : PrOk P (drQ Q n).ws := by
  unfold drQ
  split
  · exact fun y hy => h y (List.mem_of_mem_eraseIdx hy)
  · exact h
theorem pr_add {P : Int → Option Value} {Q : Que} (hR : Rise Q) (h : PrOk P Q.ws) (p : Int) : PrOk (updI P Q.n (some (.int .i64 p))) (Q.ws ++ [⟨Q.n, p, 0⟩]) := by
  intro y hy
  rcases List.mem_append.1 hy with hy | hy
  · rw [updI_other _ (by have := (hR.2 y hy).2; omega)]; exact h y hy
  · rw [List.mem_singleton] at hy
    subst hy
    exact updI_same _ _ _
/-! ### The walk -/
theorem Umi : Try.prog.underlying 28 = some (.map 3 3) := by kernel_rfl
theorem Zint (w : World) : (zeroValue 3).run Try.prog w = .ok (.int .i64 0) w := by kernel_rfl
def BI (B : Nat) (w : World) (q mp mb np : Nat) (n : Int) (Q : Que) : Prop :=
  ∃ (K : Nat → Prop) (cp : Nat) (P : Int → Option Value), QK K B w q Q ∧ K mp ∧ K mb ∧ IM w Try.prog 3 mp np cp P ∧ PrOk P Q.ws ∧ IM w Try.prog 3 mb Q.ws.length Q.ws.length (mapV (bpI Q.ws)) ∧ Rise Q ∧ (Q.st : Int) = n ∧ Bd Q
section
variable {W : World} {A : Option Addr} {c : Nat} {al : List Act}
theorem bound_k4 {B : Nat} {w0 w : World} {q mp mb n1 i : Nat} {Q : Que} {ta : Option Addr} {tc : Nat} {n : Int} {P : Value → World → Prop} {B1 : (Int) × Unit → World → Prop} (h : BI B w q mp mb (i + 1) n Q) (hi : i < 300) (hn : 0 ≤ n ∧ n ≤ 20) (g : Bel B w0 w)
    (fin : ∀ w', BI B w' q mp mb (i + 1) n Q → Bel B w0 w' → B1 (((i + 1 : Nat) : Int), ()) w') :
    S3_k4 true n (some ⟨q, 0, none⟩) (some mp) (some mb) ta n1 tc (n1 : Int) (i : Int) w P B1 := by
  obtain ⟨K, cp, PP, h1, hKp, hKb, m1, hp, m2, hR, hst, hB⟩ := h
  have hqok := h1.1.qok
  have hl64 := hqok.1
  refine (qall_ok h1.1).use ?_
  rintro v w1 ⟨A1, c1, rfl, o1, f1⟩
  have m2' := m2.fr f1 fun h => h
  refine ⟨_, _, _, rfl, _, w1, m2'.len Umi _, cF (by simp) ?_⟩
  have r1 := o1.rd
  refine ⟨fun s w' => ∃ k : Nat, s.1 = (k : Int) ∧ k ≤ Q.ws.length ∧ Fr none1 w1 w', fun s _ => Q.ws.length - s.1.toNat, ⟨0, rfl, Nat.zero_le _, Fr.refl _ _⟩, ?_⟩
  rintro J ⟨k', ⟨⟩⟩ w2 ⟨k, hk, hkl, f2⟩
  dsimp only at hk ⊢
  subst hk
  have f12 := f1.trans' f2
  refine cD (fun hlt => ?_) (fun hlt => ?_)
  · have hlt' : k < Q.ws.length := by have : (k : Int) < (Q.ws.length : Int) := hlt; omega
    have hxk : Q.ws[k]? = some Q.ws[k] := List.getElem?_eq_getElem hlt'
    have hmem := List.mem_of_getElem? hxk
    generalize Q.ws[k] = y at hxk hmem
    have hyok := hqok.2.2.2.1 _ hmem
    obtain ⟨t, ht, _, d0, d1, d2⟩ := own_wt (r1.fr f2 fun _ _ _ h => h) hxk
    refine ⟨t, ht, by omega, by omega, _, by rw [Int.toNat_natCast]; exact d0, _, by rw [Int.toNat_natCast]; exact d1, _, by rw [Int.toNat_natCast]; exact d2, ?_⟩
    obtain ⟨p1, p2, p3, p4, p5, p6, b3, f3⟩ := cp3 w2 40 (.int .i64 0) (.int .i64 0) (.int .i64 0) (.int .i64 y.id) (.int .i64 y.pr) (.int .i64 y.bp)
    refine ⟨p1, p2, p3, p4, p5, p6, ?_⟩
    generalize World.setCell _ _ _ = w3 at b3 f3 ⊢
    have f13 := f12.trans' f3
    have hyb := i64_rng (ids_bounds hR hqok y.id (List.mem_map.2 ⟨y, hmem, rfl⟩))
    have l2 := (m2.fr f13 fun h => h).look_ok Uint Umi (Zint w3) hyb
    have e1 : mapV (bpI Q.ws) y.id = some (.int .i64 y.bp) := by unfold mapV; rw [bpI_at hR hmem]; rfl
    rw [e1] at l2
    have l1 := (m1.fr f13 fun h => h).lookup Uint Umi (Zint w3) hyb
    rw [hp y hmem] at l1
    refine ⟨_, (b3.cell 0).trans rfl, _, _, w3, l2, cF rfl ⟨_, (b3.cell 2).trans rfl, cF (by simp) ⟨_, (b3.cell 1).trans rfl, _, (b3.cell 0).trans rfl, _, w3, l1, cF (by simp) ⟨_, (b3.cell 1).trans rfl, ?_⟩⟩⟩⟩
    rw [due_wrap hn ⟨hyok.1, hyok.2.1⟩]
    have hb := hB y hmem
    rw [hst] at hb
    refine cF (decide_eq_false (by omega)) ?_
    rw [IntWalk.i64_in _ (by omega)]
    exact ⟨⟨k + 1, rfl, by omega, f2.trans' f3⟩, by dsimp only; omega⟩
  · rw [IntWalk.i64_in _ (by omega)]
    exact fin w2 ⟨K, cp, PP, h1.fr0 f12, hKp, hKb, m1.fr f12 fun h => h, hp, m2.fr f12 fun h => h, hR, hst, hB⟩ (g.trans' f12.bel0)
theorem agingBound_ok (h : RowAt W.heap.size 2 (ActQ W) A al) (hc : al.length ≤ c) (hm : c ≤ 9223372036854775807) {st : Int} (hst : 0 ≤ st ∧ st < 256) : Ret Try.prog 3 [.int .u8 st, .slice A al.length c] W (Done W) := by
  apply S3_calls
  refine (shown_ok W).use ?_
  rintro v w1 ⟨rfl, f1⟩
  have t0 : 0 ≤ Int.tmod st 21 := Int.tmod_nonneg _ hst.1
  have t1 : Int.tmod st 21 < 21 := Int.tmod_lt_of_pos _ (by decide)
  refine ⟨_, rfl, by decide, ?_⟩
  rw [IntWalk.i64_in _ (by omega)]
  generalize Int.tmod st 21 = n at t0 t1
  refine (QK.new (K := fun _ => False) (B := W.heap.size) (n := n) (by omega) f1.size (fun _ h => h.elim)).use ?_
  rintro v w2 ⟨q, rfl, h2, f2, hq⟩
  refine ⟨_, _, rfl, cF rfl (cF rfl ?_)⟩
  have g2 : Bel W.heap.size W w2 := f1.bel0.trans' f2.bel0
  unfold S3_k1
  have fp : Fr none1 w2 (w2.alloc (.map #[] 0)) := Fr.alloc _ _
  have mp3 := IM.made w2 Try.prog 3
  have hBp := g2.size
  have hpl := mp3.lt
  generalize w2.alloc (.map #[] 0) = w3 at fp mp3 hpl ⊢
  obtain ⟨K3, h3, hK3, _⟩ := h2.grow1 fp
  have hKp := hK3 _ (Nat.le_refl _) hpl
  have g3 := g2.trans' fp.bel0
  have fb : Fr none1 w3 (w3.alloc (.map #[] 0)) := Fr.alloc _ _
  have mb4 := IM.made w3 Try.prog 3
  have hbl := mb4.lt
  have hBb := g3.size
  generalize w3.alloc (.map #[] 0) = w4 at fb mb4 hbl ⊢
  obtain ⟨K4, h4, hK4, hK34⟩ := h3.grow1 fb
  have hKb := hK4 _ (Nat.le_refl _) hbl
  have mp4 := mp3.fr fb fun h => h
  have g4 := g3.trans' fb.bel0
  have hpb : w2.heap.size ≠ w3.heap.size := by omega
  generalize w2.heap.size = mp at *
  generalize w3.heap.size = mb at *
  refine (few_ok hc hm).use ?_
  rintro v w4 ⟨rfl, rfl⟩
  have hrow := RowAt.take h 300
  have h300 := List.length_take_le 300 al
  generalize al.take 300 = bl at hrow h300
  refine ⟨_, _, _, rfl, ?_⟩
  have m0 : IM w4 Try.prog 3 mb 0 0 (mapV (bpI [])) := by
    rw [show mapV (bpI []) = (fun _ => none) from by funext a; rfl]; exact mb4
  refine ⟨fun s w' => ∃ (i : Nat) (Q : Que), s.1 = (i : Int) ∧ i ≤ bl.length ∧ BI W.heap.size w' q mp mb i n Q ∧ Q.n ≤ i ∧ Q.b ≤ i ∧ Bel W.heap.size W w', fun s _ => bl.length - s.1.toNat, ⟨0, _, rfl, Nat.zero_le _, ⟨K4, _, _, h4, hK34 _ hKp, hKb, mp4, (by intro x hx; cases hx), m0, ⟨List.Pairwise.nil, by simp⟩, by simp only; omega, by intro x hx; cases hx⟩, Nat.le_refl _, Nat.le_refl _, g4⟩, ?_⟩
  clear m0 mp4 mb4 mp3 h4 h3 h2 hK3 hK4 hK34 hKp hKb fp fb g3 g2
  rintro J ⟨i', ⟨⟩⟩ w5 ⟨i, Q, hi, hil, hBI, hn, hb, g5⟩
  dsimp only at hi ⊢
  subst hi
  refine cD (fun hlt => ?_) (fun hlt => ⟨rfl, g5.top⟩)
  have hlt' : i < bl.length := by have : (i : Int) < (bl.length : Int) := hlt; omega
  have hM : bl.length - ((i + 1 : Nat) : Int).toNat < bl.length - (i : Int).toNat := by omega
  have hx : bl[i]? = some bl[i] := List.getElem?_eq_getElem hlt'
  generalize bl[i] = x at hx
  obtain ⟨a, ha, c0, c1, x0, x1⟩ := act_at hrow g5 (Nat.le_refl _) hx
  refine ⟨a, ha, by omega, by omega, _, by rw [Int.toNat_natCast]; exact c0, _, by rw [Int.toNat_natCast]; exact c1, ?_⟩
  obtain ⟨p1, p2, p3, p4, b6, f6⟩ := cp2 w5 31 (.int .u8 0) (.int .i64 0) (.int .u8 x.1) (.int .i64 x.2)
  refine ⟨p1, p2, p3, p4, ?_⟩
  have hpl6 := b6.lt
  generalize hw6 : World.setCell _ _ _ = w6 at b6 f6 hpl6 ⊢
  clear hw6 p1 p2 p3 p4
  obtain ⟨K, cp, P, h5, hKp, hKb, mp5, hP, mb5, hR, hQst, hBd⟩ := hBI
  obtain ⟨K', h6, hK6, hKK⟩ := h5.grow1 f6
  have hKx := hK6 _ (Nat.le_refl _) hpl6
  have mp6 := mp5.fr f6 fun h => h
  have mb6 := mb5.fr f6 fun h => h
  have g6 := g5.trans' f6.bel0
  have hKp := hKK _ hKp
  have hKb := hKK _ hKb
  clear h5 mp5 mb5 hK6 hKK
  generalize w5.heap.size = p at b6 hKx ⊢
  have hqok := h6.1.qok
  have hl64 := hqok.1
  have hdn := doQ_n Q x
  have hRd := rise_do hR x
  have nextI : IntKind.i64.wrap ((i : Int) + 1) = ((i + 1 : Nat) : Int) := by rw [IntWalk.i64_in _ (by omega)]; rfl
  have hst := doQ_st Q x
  have fin : ∀ {Q' : Que} (w' : World), Q'.n ≤ Q.n + 1 → Q'.b ≤ Q.b + 1 → BI W.heap.size w' q mp mb (i + 1) n Q' → Bel W.heap.size W w' → (∃ (j : Nat) (Q : Que), ((i + 1 : Nat) : Int) = (j : Int) ∧ j ≤ bl.length ∧ BI W.heap.size w' q mp mb j n Q ∧ Q.n ≤ j ∧ Q.b ≤ j ∧ Bel W.heap.size W w') ∧ bl.length - ((i + 1 : Nat) : Int).toNat < bl.length - (i : Int).toNat :=
    fun {Q'} w' e1 e2 hbi hg => ⟨⟨i + 1, Q', rfl, hlt', hbi, by omega, by omega, hg⟩, hM⟩
  have k4 : ∀ {u Q'}, Q'.n ≤ Q.n + 1 → Q'.b ≤ Q.b + 1 → BI W.heap.size u q mp mb (i + 1) n Q' → Bel W.heap.size W u → S3_k4 true n (some ⟨q, 0, none⟩) (some mp) (some mb) A bl.length c (bl.length : Int) (i : Int) u (Done W) (fun s' w'' => (∃ (i : Nat) (Q : Que), s'.1 = (i : Int) ∧ i ≤ bl.length ∧ BI W.heap.size w'' q mp mb i n Q ∧ Q.n ≤ i ∧ Q.b ≤ i ∧ Bel W.heap.size W w'') ∧ bl.length - s'.1.toNat < bl.length - (i : Int).toNat) :=
    fun {u Q'} e1 e2 hbi hg => bound_k4 hbi (by omega) ⟨t0, by omega⟩ hg fun w' hb hg' => fin w' e1 e2 hb hg'
  have ne_pb : mb ≠ mp := fun e => hpb e.symm
  refine ⟨x.1, (b6.cell 0).trans rfl, by decide, cD (fun k0 => ?_) (fun k0 => cD (fun k1 => ?_) (fun k1 => ?_))⟩
  · have e : doQ Q x = adQ Q x.2 := if_pos k0
    rw [e] at hdn hRd hst
    refine ⟨_, (b6.cell 1).trans rfl, ?_⟩
    refine (h6.add x.2 (by omega)).use ?_
    rintro v w7 ⟨rfl, h7, f7⟩
    have mp7 := mp6.fr f7 fun hk => hk.2 hKp
    have mb7 := mb6.fr f7 fun hk => hk.2 hKb
    have g7 := g6.trans' (offK_bel f7)
    refine ⟨_, _, rfl, cD (fun ha => ?_) (fun ha => ?_)⟩
    · have eI : adI Q x.2 = (Q.n : Int) := by unfold adI; rw [if_pos ha]
      have eQ : adQ Q x.2 = { Q with ws := Q.ws ++ [⟨Q.n, x.2, 0⟩], n := Q.n + 1 } := by unfold adQ; rw [if_pos ha]
      rw [eI]
      have hrng : IntKind.i64.min ≤ (Q.n : Int) ∧ (Q.n : Int) ≤ IntKind.i64.max := i64_rng (by omega)
      obtain ⟨w8, r8, mp8, f8⟩ := mp7.update Uint Umi (by simp only [maxLen]; omega) hrng (.int .i64 x.2)
      obtain ⟨w9, r9, mb9, f9⟩ := (mb7.fr f8 ne_pb).update Uint Umi (by simp only [maxLen]; omega) hrng (.int .i64 0)
      refine ⟨_, ((offK_of b6 f7 hKx).cell 1).trans rfl, w8, r8, w9, r9, ?_⟩
      have hnone : mapV (bpI Q.ws) (Q.n : Int) = none := by
        unfold mapV bpI
        rw [find_none_of fun y hy => by have := (hR.2 y hy).2; omega]; rfl
      rw [hnone] at mb9
      have e4 : updI (mapV (bpI Q.ws)) (Q.n : Int) (some (.int .i64 0)) = mapV (bpI (adQ Q x.2).ws) := by
        rw [eQ]
        show _ = mapV (bpI (Q.ws ++ [⟨Q.n, x.2, 0⟩]))
        rw [bpI_add hR]
        exact updI_mapV (bpI Q.ws) Q.n (some 0)
      rw [e4] at mb9
      have e5 : (if (none : Option Value).isSome = true then Q.ws.length else Q.ws.length + 1) = (adQ Q x.2).ws.length := by rw [eQ]; simp
      rw [e5] at mb9
      refine k4 (by omega) (by omega) ⟨K', _, _, (h7.fr f8 fun k _ e => .inl (by have e : k = mp := e; subst e; exact hKp)).fr f9 fun k _ e => .inl (by have e : k = mb := e; subst e; exact hKb), hKp, hKb, mp8.fr f9 hpb, ?_, mb9.tight, hRd, by rw [hst]; exact hQst, bd_add hBd x.2⟩ (g7.trans' ((f8.bel fun k e => by subst e; exact hBp).trans' (f9.bel fun k e => by subst e; exact hBb)))
      rw [eQ]
      exact pr_add hR hP x.2
    · have eQ : adQ Q x.2 = Q := by unfold adQ; rw [if_neg ha]
      rw [eQ] at h7
      exact k4 (by omega) (by omega) ⟨K', _, _, h7, hKp, hKb, mp7.mono (by omega), hP, mb7, hR, hQst, hBd⟩ g7
  · have e : doQ Q x = tkQ Q := by unfold doQ; rw [if_neg (show ¬ kd x = 0 from k0), if_pos (show kd x = 1 from k1)]
    rw [e] at hdn hRd hst
    refine (h6.take (by omega)).use ?_
    rintro v w7 ⟨rfl, h7, f7⟩
    have mp7 := mp6.fr f7 fun hk => hk.2 hKp
    have mb7 := mb6.fr f7 fun hk => hk.2 hKb
    have g7 := g6.trans' (offK_bel f7)
    refine ⟨_, _, rfl, ?_⟩
    cases hnb : nxB Q with
    | false =>
      have eQ : tkQ Q = Q := by unfold tkQ; rw [hnb]; rfl
      rw [eQ] at h7
      refine cT rfl ?_
      rw [nextI]
      exact fin w7 (by omega) (by omega) ⟨K', _, _, h7, hKp, hKb, mp7.mono (by omega), hP, mb7, hR, hQst, hBd⟩ g7
    | true =>
      refine cF rfl ?_
      rw [if_pos rfl]
      obtain ⟨LA, LD, z, hz1, hz2, hz3, _⟩ := tk_ws hnb
      have hzm : z ∈ Q.ws := by rw [hz1]; simp
      have hzb := ids_bounds hR hqok z.id (List.mem_map.2 ⟨z, hzm, rfl⟩)
      rw [hz2] at hzb
      have hlen : (tkQ Q).ws.length + 1 = Q.ws.length := by rw [hz3, hz1]; simp; omega
      obtain ⟨w8, r8, mb8, f8⟩ := mb7.delete Uint Umi (i64_rng hzb) 0
      have hsome : mapV (bpI Q.ws) (nxI Q) = some (.int .i64 z.bp) := by unfold mapV; rw [← hz2, bpI_at hR hzm]; rfl
      rw [hsome] at mb8
      have e5 : (if (some (Value.int .i64 z.bp)).isSome = true then Q.ws.length - 1 else Q.ws.length) = (tkQ Q).ws.length := by simp; omega
      rw [e5] at mb8
      have e4 : updI (mapV (bpI Q.ws)) (nxI Q) none = mapV (updF (bpI Q.ws) (nxI Q) none) := updI_mapV (bpI Q.ws) (nxI Q) none
      rw [e4] at mb8
      have hF : bpI (tkQ Q).ws = _ := bpI_take hR hnb
      have hFb : ∀ a b, updF (bpI Q.ws) (nxI Q) none a = some b → 0 ≤ b ∧ b ≤ 300 := fun a b h => by
        unfold updF at h
        split at h
        · cases h
        · obtain ⟨y, hy, _, hyb⟩ := bpI_mem h
          have := (hqok.2.2.2.1 y hy).2.2
          omega
      generalize updF (bpI Q.ws) (nxI Q) none = F1 at mb8 hF hFb
      generalize nxI Q = id at hzb hF r8 ⊢
      obtain ⟨w9, cnt0, r9, rg9, f9⟩ := mb8.range Uint Umi
      refine ⟨w8, r8, w9, r9, ?_⟩
      have hrl := rg9.lt
      have hBr : W.heap.size ≤ w8.heap.size := Nat.le_trans g7.size f8.size
      have h8 := h7.fr f8 fun k _ e => .inl (by have e : k = mb := e; subst e; exact hKb)
      obtain ⟨K9, h9, hK9, hKK9⟩ := h8.grow1 f9
      have hKr := hK9 _ (Nat.le_refl _) hrl
      have mp9 := (mp7.fr f8 hpb).fr f9 fun h => h
      have hmpr : mp ≠ w8.heap.size := by have := (mp7.fr f8 hpb).lt; omega
      generalize w8.heap.size = r at *
      have g9 := g7.trans' ((f8.bel fun k e => by subst e; exact hBb).trans' f9.bel0)
      refine ⟨fun _ w' => ∃ (left : Int → Bool) (cnt : Nat) (G : Int → Option Int), RG w' Try.prog 3 mb r Q.ws.length (tkQ Q).ws.length (mapV G) left cnt ∧ (∀ a, G a = if a < id ∧ left a = false then (F1 a).map (· + 1) else F1 a) ∧ Fr (fun k => k = mb ∨ k = r) w9 w', fun _ w' => w'.rangeLeft mb r, ⟨_, cnt0, F1, rg9, fun a => ?_, Fr.refl _ _⟩, ?_⟩
      · split
        · rename_i hl
          have : F1 a = none := by
            have := hl.2
            unfold mapV at this
            cases hfa : F1 a with
            | none => rfl
            | some b => rw [hfa] at this; cases this
          rw [this]; rfl
        · rfl
      rintro J2 ⟨⟩ w10 ⟨left, cnt, G, rg10, hG, f10⟩
      rcases rg10.next Uint 0 with ⟨hall, hrun⟩ | ⟨a, vv, w11, cnt', hab, hla, hva, hrun, rg11, hcnt, f11, hent⟩
      · left
        refine ⟨w10, hrun, ?_⟩
        have eG : G = bpI (tkQ Q).ws := by
          rw [hF]
          funext a
          rw [hG a, hall a]
          simp
        have im10 := rg10.im
        rw [eG] at im10
        exact k4 (by omega) (by omega) ⟨K9, _, _, h9.fr f10 fun k _ e => .inl (by rcases e with e | e; exact e ▸ hKK9 _ hKb; exact e ▸ hKr), hKK9 _ hKp, hKK9 _ hKb, (mp9.fr f10 fun e => by rcases e with e | e; exact hpb e; exact hmpr e).mono (by omega), pr_take hP, im10.tight, hRd, by rw [hst]; exact hQst, bd_take hBd⟩ (g9.trans' (f10.bel fun k e => by rcases e with e | e; exact e ▸ hBb; exact e ▸ hBr))
      · right
        have eGa : G a = F1 a := by rw [hG a, hla]; simp
        obtain ⟨b, hb1, rfl⟩ : ∃ b, F1 a = some b ∧ vv = .int .i64 b := by
          unfold mapV at hva
          rw [eGa] at hva
          cases hfa : F1 a with
          | none => rw [hfa] at hva; cases hva
          | some b => rw [hfa] at hva; exact ⟨b, rfl, (Option.some.inj hva).symm⟩
        have hbb := hFb a b hb1
        have f911 : Fr (fun k => k = mb ∨ k = r) w9 w11 := f10.trans' (f11.mono fun k _ e => .inr e)
        have eL : w10.rangeLeft mb r = cnt := rg10.left_eq
        refine ⟨a, b, w11, hrun, a, b, w11, hent, cD (fun hlt2 => ?_) (fun hlt2 => ?_)⟩
        · have lk := rg11.im.lookup Uint Umi (Zint w11) hab
          rw [hva] at lk
          obtain ⟨w12, r12, rg12, f12⟩ := rg11.update Uint Umi (by simp only [maxLen]; omega) hab hva (.int .i64 (b + 1))
          refine ⟨b, w11, lk, w12, by rw [IntWalk.i64_in _ (by omega)]; exact r12, ⟨(fun y => left y && !decide (y = a)), cnt', updF G a (some (b + 1)), ?_, fun a' => ?_, f911.trans' (f12.mono fun k _ e => .inl e)⟩, ?_⟩
          · have e6 : updI (mapV G) a (some (.int .i64 (b + 1))) = mapV (updF G a (some (b + 1))) := updI_mapV G a (some (b + 1))
            rw [← e6]
            exact rg12
          · unfold updF
            by_cases ea : a' = a
            · subst ea
              rw [if_pos rfl, hb1]
              simp [hlt2]
            · rw [if_neg ea, hG a']
              simp [ea]
          · show w12.rangeLeft mb r < w10.rangeLeft mb r
            rw [eL, rg12.left_eq]; exact hcnt
        · refine ⟨⟨(fun y => left y && !decide (y = a)), cnt', G, rg11, fun a' => ?_, f911⟩, by show w11.rangeLeft mb r < w10.rangeLeft mb r; rw [eL, rg11.left_eq]; exact hcnt⟩
          rw [hG a']
          by_cases ea : a' = a
          · subst ea
            simp [hlt2]
          · simp [ea]
  · have e : doQ Q x = drQ Q x.2 := by unfold doQ; rw [if_neg (show ¬ kd x = 0 from k0), if_neg (show ¬ kd x = 1 from k1)]
    rw [e] at hdn hRd hst
    refine ⟨_, (b6.cell 1).trans rfl, ?_⟩
    refine (h6.drop x.2).use ?_
    rintro v w7 ⟨rfl, h7, f7⟩
    have mp7 := mp6.fr f7 fun hk => hk.2 hKp
    have mb7 := mb6.fr f7 fun hk => hk.2 hKb
    have g7 := g6.trans' (offK_bel f7)
    refine ⟨_, rfl, cB (fun hd => ?_) (fun hd => ?_)⟩
    · obtain ⟨j, hj⟩ : ∃ j, Q.ws.findIdx? (isI x.2) = some j := by
        unfold drB at hd
        exact Option.isSome_iff_exists.1 hd
      rw [List.findIdx?_eq_some_iff_getElem] at hj
      obtain ⟨hjl, hjp, _⟩ := hj
      have hjm := List.getElem_mem hjl
      generalize Q.ws[j] = y at hjp hjm
      have hyi : y.id = x.2 := of_decide_eq_true hjp
      have hyb := ids_bounds hR hqok y.id (List.mem_map.2 ⟨y, hjm, rfl⟩)
      rw [hyi] at hyb
      have hlen : (drQ Q x.2).ws.length + 1 = Q.ws.length := by
        unfold drQ
        cases hf : Q.ws.findIdx? (isI x.2) with
        | none => unfold drB at hd; rw [hf] at hd; cases hd
        | some j =>
          rw [List.findIdx?_eq_some_iff_getElem] at hf
          have := hf.1
          show (Q.ws.eraseIdx j).length + 1 = _
          rw [List.length_eraseIdx, if_pos this]; omega
      obtain ⟨w8, r8, mb8, f8⟩ := mb7.delete Uint Umi (i64_rng hyb) 0
      have hsome : mapV (bpI Q.ws) x.2 = some (.int .i64 y.bp) := by unfold mapV; rw [← hyi, bpI_at hR hjm]; rfl
      rw [hsome] at mb8
      have e5 : (if (some (Value.int .i64 y.bp)).isSome = true then Q.ws.length - 1 else Q.ws.length) = (drQ Q x.2).ws.length := by simp; omega
      have e4 : updI (mapV (bpI Q.ws)) x.2 none = mapV (bpI (drQ Q x.2).ws) := by
        rw [bpI_drop hR]
        exact updI_mapV (bpI Q.ws) x.2 none
      rw [e4, e5] at mb8
      exact ⟨_, ((offK_of b6 f7 hKx).cell 1).trans rfl, w8, r8, k4 (by omega) (by omega) ⟨K', _, _, h7.fr f8 fun k _ e => .inl (by have e : k = mb := e; subst e; exact hKb), hKp, hKb, (mp7.fr f8 hpb).mono (by omega), pr_drop hP x.2, mb8.tight, hRd, by rw [hst]; exact hQst, bd_drop hBd x.2⟩ (g7.trans' (f8.bel fun k e => by subst e; exact hBb))⟩
    · have eQ : drQ Q x.2 = Q := by
        unfold drB at hd
        unfold drQ
        cases hf : Q.ws.findIdx? (isI x.2) with
        | none => rfl
        | some j => rw [hf] at hd; cases hd
      rw [eQ] at h7
      exact k4 (by omega) (by omega) ⟨K', _, _, h7, hKp, hKb, mp7.mono (by omega), hP, mb7, hR, hQst, hBd⟩ g7
end
end Go.Proofs
