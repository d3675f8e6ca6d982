import Derived.Test.YtmhjjhpgbafjpaaDoorEng7
import Derived.Scope
set_option linter.unusedVariables false
namespace Go.Eng
open Go

/-! ### What a loop carries -/
def KT (k : Kd) : Type := match k with
  | .int _ => Int
  | .bool => Bool
  | .string => ByteArray
  | .pointer => Option Addr
  | .slice => Option Addr × Nat × Nat
  | .map => Option Nat
  | .any => Value
  | .addr => Addr
def encK (k : Kd) : KT k → Value := match k with
  | .int k => fun n => .int k n
  | .bool => fun b => .bool b
  | .string => fun s => .string s
  | .pointer => fun p => .pointer p
  | .slice => fun s => .slice s.1 s.2.1 s.2.2
  | .map => fun m => .map m
  | .any => fun v => v
  | .addr => fun a => .pointer (some a)
def rdK (k : Kd) (v : Value) : (KT k → Prop) → Prop := match k with
  | .int k => fun K => (match v with | .int k' n => sameK k k' (K n) | _ => False)
  | .bool => fun K => (match v with | .bool b => K b | _ => False)
  | .string => fun K => (match v with | .string s => K s | _ => False)
  | .pointer => fun K => (match v with | .pointer p => K p | _ => False)
  | .slice => fun K => (match v with | .slice a l c => K (a, l, c) | _ => False)
  | .map => fun K => (match v with | .map m => K m | _ => False)
  | .any => fun K => K v
  | .addr => fun K => (match v with | .pointer (some a) => K a | _ => False)
theorem rdK_out {k : Kd} {v : Value} {K : KT k → Prop} (h : rdK k v K) : ∃ x, v = encK k x ∧ K x := by
  cases k <;> simp only [rdK] at h
  case int k =>
    split at h
    · unfold sameK at h
      split at h
      · rename_i e; subst e; exact ⟨_, rfl, h⟩
      · exact h.elim
    · exact h.elim
  case any => exact ⟨_, rfl, h⟩
  all_goals (split at h; exact ⟨_, rfl, h⟩; exact h.elim)
theorem encK_inj {k : Kd} {x y : KT k} (h : encK k x = encK k y) : x = y := by
  cases k <;> simp only [encK] at h
  case slice => obtain ⟨a, b, c⟩ := x; obtain ⟨d, e, f⟩ := y; cases h; rfl
  case any => exact h
  all_goals (cases h; rfl)
def TupK : List Kd → Type
  | [] => Unit
  | k :: ks => KT k × TupK ks
def encKs : (ks : List Kd) → TupK ks → List Value
  | [], _ => []
  | k :: ks, x => encK k x.1 :: encKs ks x.2
def rdKs : (ks : List Kd) → List Value → (TupK ks → Prop) → Prop
  | [], [], K => K ()
  | k :: ks, v :: vs, K => rdK k v fun x => rdKs ks vs fun xs => K (x, xs)
  | [], _ :: _, _ => False
  | _ :: _, [], _ => False
theorem rdKs_out : ∀ {ks : List Kd} {vs : List Value} {K : TupK ks → Prop}, rdKs ks vs K → ∃ x, vs = encKs ks x ∧ K x
  | [], [], K, h => ⟨(), rfl, h⟩
  | k :: ks, v :: vs, K, h => by
    obtain ⟨x, hx, h⟩ := rdK_out h
    obtain ⟨xs, hxs, h⟩ := rdKs_out (ks := ks) h
    exact ⟨(x, xs), by simp only [encKs]; rw [hx, hxs], h⟩
  | [], _ :: _, _, h => h.elim
  | _ :: _, [], _, h => h.elim
theorem encKs_inj : ∀ {ks : List Kd} {x y : TupK ks}, encKs ks x = encKs ks y → x = y
  | [], _, _, _ => rfl
  | k :: ks, (x, xs), (y, ys), h => by
    simp only [encKs, List.cons.injEq] at h
    exact Prod.ext (encK_inj h.1) (encKs_inj (ks := ks) h.2)
inductive Sk where
  | one (k : Kd)
  | agg (ks : List Kd)
def ST (s : Sk) : Type := match s with
  | .one k => KT k
  | .agg ks => TupK ks
def encS (s : Sk) : ST s → Value := match s with
  | .one k => fun x => encK k x
  | .agg ks => fun x => .agg ⟨encKs ks x⟩
def rdS (s : Sk) (v : Value) : (ST s → Prop) → Prop := match s with
  | .one k => fun K => rdK k v K
  | .agg ks => fun K => (match v with | .agg cs => rdKs ks cs.toList K | _ => False)
theorem rdS_out {s : Sk} {v : Value} {K : ST s → Prop} (h : rdS s v K) : ∃ x, v = encS s x ∧ K x := by
  cases s <;> simp only [rdS] at h
  · exact rdK_out h
  · split at h
    · rename_i cs
      obtain ⟨x, hx, hk⟩ := rdKs_out h
      exact ⟨x, by simp only [encS]; rw [← hx], hk⟩
    · exact h.elim
theorem encS_inj {s : Sk} {x y : ST s} (h : encS s x = encS s y) : x = y := by
  cases s <;> simp only [encS] at h
  · exact encK_inj h
  · simp only [Value.agg.injEq, Array.mk.injEq] at h
    exact encKs_inj h
def Tup : List (Nat × Sk) → Type
  | [] => Unit
  | (_, s) :: l => ST s × Tup l
def rdT : (l : List (Nat × Sk)) → Env → (Tup l → Prop) → Prop
  | [], ρ, K => K ()
  | (i, s) :: l, ρ, K => rdS s (ρ i) fun x => rdT l ρ fun xs => K (x, xs)
def okT : (l : List (Nat × Sk)) → Env → Tup l → Prop
  | [], ρ, _ => True
  | (i, s) :: l, ρ, x => ρ i = encS s x.1 ∧ okT l ρ x.2
theorem rdT_out : ∀ {l : List (Nat × Sk)} {ρ : Env} {K : Tup l → Prop}, rdT l ρ K → ∃ x, okT l ρ x ∧ K x
  | [], ρ, K, h => ⟨(), trivial, h⟩
  | (i, s) :: l, ρ, K, h => by
    obtain ⟨x, hx, h⟩ := rdS_out h
    obtain ⟨xs, hxs, h⟩ := rdT_out h
    exact ⟨(x, xs), ⟨hx, hxs⟩, h⟩
theorem okT_inj : ∀ {l : List (Nat × Sk)} {ρ : Env} {x y : Tup l}, okT l ρ x → okT l ρ y → x = y
  | [], _, _, _, _, _ => rfl
  | (i, s) :: l, ρ, (x, xs), (y, ys), hx, hy => by
    exact Prod.ext (encS_inj (hx.1.symm.trans hy.1)) (okT_inj (l := l) hx.2 hy.2)
def mkT : (l : List (Nat × Sk)) → Tup l → Env → Env
  | [], _, J => J
  | (i, s) :: l, x, J => up (mkT l x.2 J) i (encS s x.1)
def mkK : List Nat → Env → Env → Env
  | [], ρ, J => J
  | i :: l, ρ, J => up (mkK l ρ J) i (ρ i)
theorem mkT_self : ∀ {l : List (Nat × Sk)} {J : Env} {x : Tup l}, okT l J x → mkT l x J = J
  | [], J, x, _ => rfl
  | (i, s) :: l, J, x, h => by
    simp only [mkT]
    rw [mkT_self h.2, ← h.1, up_self]
theorem mkK_self : ∀ {l : List Nat} {ρ J : Env}, (∀ i ∈ l, J i = ρ i) → mkK l ρ J = J
  | [], ρ, J, _ => rfl
  | i :: l, ρ, J, h => by
    simp only [mkK]
    rw [mkK_self (fun j hj => h j (by simp [hj])), ← h i (by simp), up_self]
structure LA where
  keep : List Nat
  st : List (Nat × Sk)
def wr : Code → Nat → Bool
  | .region _ ops _, i => opsWr ops.toList i
  | .seq a b, i => wr a i || wr b i
  | .cond _ a b, i => wr a i || wr b i
  | .block _ c, i => wr c i
  | .loop c, i => wr c i
  | .scope c, i => wr c i
  | _, _ => false
def allK (c : Code) (l : List Nat) : Bool := l.all fun i => !wr c i

/-! ### The condition -/
def loopQ (st : List (Nat × Sk)) (I : Tup st → World → Prop) (μ : Tup st → World → Nat) (s : Tup st) (w : World) (Q : Exit → Env → World → Prop) : Exit → Env → World → Prop :=
  thenE (fun ρ' w' => rdT st ρ' fun s' => I s' w' ∧ μ s' w' < μ s w) Q
def scE (Q : Exit → Env → World → Prop) (e : Exit) (ρ : Env) (w : World) : Prop :=
  match e with
  | .normal => Q .normal ρ w
  | .exit id => Q (.exit id) ρ w
  | .ret => Q .ret ρ w
  | _ => False
def R (P : Program) (C : Cf) (n : Nat) (ann : List Nat → Option LA) : List Nat → Code → (Exit → Env → World → Prop) → Env → World → Prop
  | _, .skip, Q, ρ, w => Q .normal ρ w
  | _, .exit id, Q, ρ, w => Q (.exit id) ρ w
  | _, .ret, Q, ρ, w => Q .ret ρ w
  | _, .region _ ops draw, Q, ρ, w => (match opsOk n ops with
    | true => (match draw with
      | false => regL P C ops ops.toList ρ w (Q .normal)
      | true => (match Region.noSelect ops with
        | true => anyR P C ops ops.size (Array.replicate ops.size false) ρ w.drew (Q .normal)
        | false => False))
    | false => False)
  | p, .seq x y, Q, ρ, w => R P C n ann (0 :: p) x (thenE (R P C n ann (1 :: p) y Q) Q) ρ w
  | p, .cond c x y, Q, ρ, w => (match ev ρ c with
    | .bool b => cond b (R P C n ann (0 :: p) x Q ρ w) (R P C n ann (1 :: p) y Q ρ w)
    | _ => False)
  | p, .block id c, Q, ρ, w => R P C n ann (0 :: p) c (blkE id Q) ρ w
  | p, .loop c, Q, ρ, w => (match ann p with
    | some la => (match allK c la.keep with
      | true => ∃ (I : Tup la.st → World → Prop) (μ : Tup la.st → World → Nat), rdT la.st ρ (fun s => I s w) ∧
          ∀ (J : Env) (s : Tup la.st) (w : World), I s w → R P C n ann (0 :: p) c (loopQ la.st I μ s w Q) (mkK la.keep ρ (mkT la.st s J)) w
      | false => False)
    | none => False)
  | p, .scope c, Q, ρ, w => R P C n ann (0 :: p) c (scE Q) ρ w
  | _, .label _, Q, ρ, w => Q .normal ρ w
  | _, _, _, _, _ => False
section
variable {P : Program} {C : Cf} {n : Nat} {ann : List Nat → Option LA}
theorem wE_region {id : Nat} {ops : Array Oper} {draw : Bool} {Q : Exit → Env → World → Prop} {ρ : Env} {w : World} {K : Env → World → Prop} (hK : ∀ ρ w, K ρ w → Q .normal ρ w)
    (h : ∀ a, At n a ρ → (Code.region id ops draw).wp P (RegQ n K) a w) : wE P n (.region id ops draw) Q ρ w := by
  intro a ha
  refine Code.wp_mono (fun e a' w' hq => ?_) (h a ha)
  cases e <;> simp only [RegQ] at hq
  obtain ⟨ρ', h1, h2⟩ := hq
  exact ⟨ρ', h1, hK _ _ h2⟩
open Classical in
theorem R_sound (hC : ∀ f, C.call f = true → callable P f = true) (hm : P.follows .mixedOrders = true) : ∀ (c : Code) (p : List Nat) (Q : Exit → Env → World → Prop) (ρ : Env) (w : World), R P C n ann p c Q ρ w →
    wE P n c (fun e ρ' w' => Q e ρ' w' ∧ ∀ i, wr c i = false → ρ' i = ρ i) ρ w := by
  intro c
  induction c with
  | skip => intro p Q ρ w h; exact wE_skip ⟨h, fun _ _ => rfl⟩
  | exit id => intro p Q ρ w h; exact wE_exit ⟨h, fun _ _ => rfl⟩
  | ret => intro p Q ρ w h; exact wE_ret ⟨h, fun _ _ => rfl⟩
  | region id ops draw =>
    intro p Q ρ w h
    simp only [R] at h
    split at h
    · rename_i hok
      cases draw with
      | false =>
        simp only [] at h
        refine wE_region (K := fun ρ' w' => Q .normal ρ' w' ∧ ∀ i, opsWr ops.toList i = false → ρ' i = ρ i) (fun ρ' w' hq => hq) fun a ha => ?_
        exact wp_region_list (regL_sound hC ops.toList (fun o ho => opsOk_out hok (Array.mem_toList_iff.1 ho)) ρ w _ h a ha)
      | true =>
        simp only [] at h
        split at h
        · rename_i hsel
          refine wE_region (K := fun ρ' w' => Q .normal ρ' w' ∧ ∀ i, opsWr ops.toList i = false → ρ' i = ρ i) (fun ρ' w' hq => hq) fun a ha => ?_
          exact wp_region_any hm (anyR_sound hC hok hsel _ _ ρ w.drew _ h a ha)
        · exact h.elim
    · exact h.elim
  | seq x y ihx ihy =>
    intro p Q ρ w h
    simp only [R] at h
    refine wE_seq (wE_mono (ihx _ _ _ _ h) fun e ρ' w' ⟨h1, h2⟩ => ?_)
    cases e <;> simp only [thenE] at h1 ⊢
    · refine wE_mono (ihy _ _ _ _ h1) fun e ρ'' w'' ⟨h3, h4⟩ => ⟨h3, fun i hi => ?_⟩
      simp only [wr, Bool.or_eq_false_iff] at hi
      rw [h4 i hi.2, h2 i hi.1]
    · refine ⟨h1, fun i hi => ?_⟩
      simp only [wr, Bool.or_eq_false_iff] at hi
      exact h2 i hi.1
    · refine ⟨h1, fun i hi => ?_⟩
      simp only [wr, Bool.or_eq_false_iff] at hi
      exact h2 i hi.1
  | cond c x y ihx ihy =>
    intro p Q ρ w h
    simp only [R] at h
    split at h
    · rename_i b hb
      refine wE_cond hb ?_
      cases b with
      | true =>
        simp only [cond_true] at h
        refine wE_mono (ihx _ _ _ _ h) fun e ρ' w' ⟨h1, h2⟩ => ⟨h1, fun i hi => ?_⟩
        simp only [wr, Bool.or_eq_false_iff] at hi
        exact h2 i hi.1
      | false =>
        simp only [cond_false] at h
        refine wE_mono (ihy _ _ _ _ h) fun e ρ' w' ⟨h1, h2⟩ => ⟨h1, fun i hi => ?_⟩
        simp only [wr, Bool.or_eq_false_iff] at hi
        exact h2 i hi.2
    · exact h.elim
  | block id c ih =>
    intro p Q ρ w h
    simp only [R] at h
    refine wE_block (wE_mono (ih _ _ _ _ h) fun e ρ' w' ⟨h1, h2⟩ => ?_)
    cases e <;> simp only [blkE] at h1 ⊢
    · exact ⟨h1, h2⟩
    · split <;> rename_i hb <;> rw [hb] at h1 <;> exact ⟨h1, h2⟩
    · exact ⟨h1, h2⟩
  | loop c ih =>
    intro p Q ρ w h
    simp only [R] at h
    split at h
    · rename_i la hla
      split at h
      · rename_i hk
        obtain ⟨I, μ, h0, hr⟩ := h
        obtain ⟨s0, hs0, hI0⟩ := rdT_out h0
        refine wE_loop (fun ρ' w' => (∃ s, okT la.st ρ' s ∧ I s w') ∧ ∀ i, wr c i = false → ρ' i = ρ i)
          (fun ρ' w' => if hx : ∃ s, okT la.st ρ' s then μ (Classical.choose hx) w' else 0) ⟨⟨s0, hs0, hI0⟩, fun _ _ => rfl⟩ ?_
        rintro ρ' w' ⟨⟨s, hs, hI⟩, hsame⟩
        have hkeep : ∀ i ∈ la.keep, ρ' i = ρ i := fun i hi => hsame i (by
          have := List.all_eq_true.1 hk i hi
          simpa using this)
        have he : mkK la.keep ρ (mkT la.st s ρ') = ρ' := by rw [mkT_self hs, mkK_self hkeep]
        have h1 := ih _ _ _ _ (hr ρ' s w' hI)
        rw [he] at h1
        refine wE_mono h1 fun e ρ'' w'' ⟨h2, h3⟩ => ?_
        cases e <;> simp only [loopQ, thenE] at h2 ⊢
        · obtain ⟨s', hs', hI', hlt⟩ := rdT_out h2
          refine ⟨⟨⟨s', hs', hI'⟩, fun i hi => (h3 i hi).trans (hsame i hi)⟩, ?_⟩
          have e1 : ∃ s, okT la.st ρ'' s := ⟨s', hs'⟩
          have e2 : ∃ s, okT la.st ρ' s := ⟨s, hs⟩
          rw [dif_pos e1, dif_pos e2, okT_inj (Classical.choose_spec e1) hs', okT_inj (Classical.choose_spec e2) hs]
          exact hlt
        · exact ⟨h2, fun i hi => (h3 i hi).trans (hsame i hi)⟩
        · exact ⟨h2, fun i hi => (h3 i hi).trans (hsame i hi)⟩
      · exact h.elim
    · exact h.elim
  | rangeFunc f ps a b iha ihb => intro p Q ρ w h; simp only [R] at h
  | scope c ih =>
    intro p Q ρ w h
    simp only [R] at h
    intro a ha
    refine wp_scope_straight (Code.wp_mono (fun e a' w' ⟨ρ', h1, h2, h3⟩ => ?_) (ih _ _ _ _ h a ha))
    cases e <;> simp only [scE, Exit.noGoto] at h2 ⊢
    · exact ⟨ρ', h1, h2, h3⟩
    · exact ⟨ρ', h1, h2, h3⟩
    · exact ⟨ρ', h1, h2, h3⟩
  | label l => intro p Q ρ w h; exact fun a ha => wp_label ⟨ρ, ha, h, fun _ _ => rfl⟩
  | goto l => intro p Q ρ w h; simp only [R] at h
  | refuse s => intro p Q ρ w h; simp only [R] at h

def argE (args : List Value) : Env := fun i => args.getD i undef
def resR (P : Program) : List ResultVar → Env → World → (List Value → Prop) → Prop
  | [], ρ, w, K => K []
  | r :: rs, ρ, w, K => (match r with
    | .tmp t => resR P rs ρ w fun vs => K (ρ t :: vs)
    | .cell a t => loadR P t (ρ a) w fun v => resR P rs ρ w fun vs => K (v :: vs))
def oneV (vs : List Value) : Value := match vs with
  | [v] => v
  | vs => .tuple ⟨vs⟩
def bodyQ (P : Program) (res : Array ResultVar) (Rp : Value → World → Prop) (e : Exit) (ρ : Env) (w : World) : Prop := match e with
  | .normal => resR P res.toList ρ w fun vs => Rp (oneV vs) w
  | .ret => resR P res.toList ρ w fun vs => Rp (oneV vs) w
  | _ => False
def resS (tmps : Array Value) (r : ResultVar) : Sem Value := match r with
  | .tmp t => pure (tmps.getD t undef)
  | .cell a t => do loadVar t (← asAddr (tmps.getD a undef))
theorem loadR_ptr {t : TypeId} {ad : Value} {w : World} {K : Value → Prop} (h : loadR P t ad w K) : ∃ a, ad = .pointer (some a) := by
  unfold loadR at h
  split at h
  · exact ⟨_, rfl⟩
  · exact h.elim
theorem run_res {tmps : Array Value} {ρ : Env} (hg : ∀ t, tmps.getD t undef = ρ t) {w : World} : ∀ (l : List ResultVar) {K : List Value → Prop}, resR P l ρ w K →
    ∃ vs, (l.mapM (resS tmps)).run P w = .ok vs w ∧ K vs
  | [], K, h => ⟨[], rfl, h⟩
  | r :: l, K, h => by
    unfold resR at h
    cases r with
    | cell a t =>
      simp only [] at h
      obtain ⟨ad, had⟩ := loadR_ptr h
      obtain ⟨v, hv, h⟩ := loadR_out h
      obtain ⟨vs, hvs, hk⟩ := run_res hg l h
      refine ⟨v :: vs, ?_, hk⟩
      rw [had] at hv
      have hv' : (loadVar t ad).run P w = .ok v w := by simpa [Instr.loadAt, Instr.sureAddr] using hv
      simp only [List.mapM_cons, Sem.run_bind, resS, hg, had, asAddr, Sem.run_pure, Result.andThen_ok, hv', hvs]
    | tmp t =>
      simp only [] at h
      obtain ⟨vs, hvs, hk⟩ := run_res hg l h
      refine ⟨ρ t :: vs, ?_, hk⟩
      simp only [List.mapM_cons, Sem.run_bind, resS, Sem.run_pure, Result.andThen_ok, hvs, hg]
/-- A function's call, by its condition. -/
def Ret (P : Program) (f : FuncId) (args : List Value) (w : World) (Rp : Value → World → Prop) : Prop :=
  Calls P f ⟨args⟩ w fun e w' => ∃ v, e = .returned v ∧ Rp v w'
theorem R_calls (hC : ∀ f, C.call f = true → callable P f = true) (hm : P.follows .mixedOrders = true) {f : FuncId} {fn : Func} {c : Code} {args : List Value} {res : Array ResultVar} {Rp : Value → World → Prop} {w : World}
    (hf : P.funcs[f]? = some fn) (hb : fn.body = some c) (hr : fn.results = res) (hn : fn.ntmps = n) (ha : Nat.ble args.length n = true)
    (h : R P C n ann [] c (bodyQ P res Rp) (argE args) w) : Ret P f args w Rp := by
  have hle := Nat.le_of_ble_eq_true ha
  refine calls_of_wp hf hb ?_
  have hA : At n { tmps := (⟨args⟩ : Array Value) ++ Array.replicate (fn.ntmps - (⟨args⟩ : Array Value).size) undef, defers := [] } (argE args) := by
    refine ⟨by simp [hn]; omega, rfl, fun t => ?_⟩
    simp only [argE, Array.getD_eq_getD_getElem?, Array.getElem?_append, List.size_toArray, List.getElem?_toArray, List.getD]
    split
    · rfl
    · rename_i hlt
      rw [List.getElem?_eq_none (by omega), Array.getElem?_replicate]
      split <;> rfl
  refine Code.wp_mono (fun e a' w' hq => ?_) (R_sound hC hm c [] _ _ w h _ hA)
  obtain ⟨ρ', h1, h2, _⟩ := hq
  have fin : ∀ {ρ' a'}, At n a' ρ' → (resR P res.toList ρ' w' fun vs => Rp (oneV vs) w') → ∃ v, (results fn a'.tmps).run P w' = .ok v w' ∧ Rp v w' := by
    intro ρ' a' h1 h2
    obtain ⟨vs, hvs, hk⟩ := run_res (P := P) h1.get res.toList h2
    have e1 : results fn a'.tmps = (do
      let vs ← fn.results.mapM (resS a'.tmps)
      pure (if h : vs.size = 1 then vs[0] else .tuple vs)) := rfl
    have e2 : (res.mapM (resS a'.tmps)).run P w' = .ok ⟨vs⟩ w' := by
      rw [← Array.toArray_toList (xs := res), List.mapM_toArray, Sem.run_map, hvs]; rfl
    refine ⟨oneV vs, ?_, hk⟩
    rw [e1, hr, Sem.run_bind, e2]
    simp only [Result.andThen_ok, Sem.run_pure, List.size_toArray]
    unfold oneV
    match vs with
    | [r] => simp
    | [] => simp
    | r :: r' :: l => simp
  cases e <;> simp only [bodyQ, bodyPost] at h2 ⊢
  · obtain ⟨v, hv, hR⟩ := fin h1 h2; exact ⟨h1.defers, v, hv, v, rfl, hR⟩
  · obtain ⟨v, hv, hR⟩ := fin h1 h2; exact ⟨h1.defers, v, hv, v, rfl, hR⟩
end
end Go.Eng
