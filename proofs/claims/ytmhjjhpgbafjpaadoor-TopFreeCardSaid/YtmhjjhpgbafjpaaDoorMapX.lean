/- Own maps from ints to any values: what is looked up, laid, taken out, counted, walked, and stored on the way. -/
import Derived.Test.YtmhjjhpgbafjpaaDoorMapK3
set_option linter.unusedVariables false
namespace Go.Eng
open Go Go.ChangeMaps Go.WideElems
def hR (v : Value) : Option (DataW Value × List MemPlace) := some (.held v, [])
def Vw (D : DataW Value) (c : Nat) (f : Int → Option Value) : Prop :=
  Maps.Tidy D ∧ Maps.size D = c ∧ ∀ a, Maps.has D (.int .i64 a) = (f a).isSome ∧ ∀ zd, D.atKey (.int .i64 a) zd = match f a with
    | some v => .held v
    | none => zd
def updI (f : Int → Option Value) (a : Int) (v : Option Value) : Int → Option Value := fun i => if i = a then v else f i
theorem updI_same (f : Int → Option Value) (a : Int) (v : Option Value) : updI f a v a = v := by simp [updI]
theorem updI_other (f : Int → Option Value) {a i : Int} (h : i ≠ a) (v : Option Value) : updI f a v i = f i := by simp [updI, h]
theorem lit_ne {a i : Int} (h : i ≠ a) : (Lit.int .i64 i) ≠ Lit.int .i64 a := fun e => h (by cases e; rfl)
theorem Vw.put {D : DataW Value} {c : Nat} {f : Int → Option Value} (h : Vw D c f) {a : Int} (hk : WideAt.IsKeyLit (.int .i64 a)) (v : Value) : Vw (D.put (.int .i64 a) (.held v)) (if (f a).isSome then c else c + 1) (updI f a (some v)) := by
  obtain ⟨h1, h2, h3⟩ := h
  refine ⟨h1.put hk _, ?_, fun i => ?_⟩
  · rw [Maps.size_put h1, (h3 a).1, h2]
  · by_cases e : i = a
    · subst e
      rw [updI_same]
      exact ⟨Maps.has_put_same h1.isMap hk _, fun zd => Maps.atKey_put_same h1.isMap hk _ _⟩
    · rw [updI_other _ e]
      exact ⟨by rw [Maps.has_put_other (lit_ne e)]; exact (h3 i).1, fun zd => by rw [Maps.atKey_put_other (lit_ne e)]; exact (h3 i).2 zd⟩
theorem Vw.del {D : DataW Value} {c : Nat} {f : Int → Option Value} (h : Vw D c f) (a : Int) : Vw (D.del (.int .i64 a)) (if (f a).isSome then c - 1 else c) (updI f a none) := by
  obtain ⟨h1, h2, h3⟩ := h
  refine ⟨h1.del _, ?_, fun i => ?_⟩
  · have := Maps.size_del (k := .int .i64 a) h1
    rw [(h3 a).1, h2] at this
    split at this <;> simp_all <;> omega
  · by_cases e : i = a
    · subst e
      rw [updI_same]
      exact ⟨Maps.has_del_same, fun zd => Maps.atKey_del_same zd⟩
    · rw [updI_other _ e]
      exact ⟨by rw [Maps.has_del_other (lit_ne e)]; exact (h3 i).1, fun zd => by rw [Maps.atKey_del_other (lit_ne e)]; exact (h3 i).2 zd⟩
def IM (w : World) (P : Program) (k : TypeId) (m n c : Nat) (f : Int → Option Value) : Prop := ∃ D, w.ownsMap P k hR m n D ∧ Vw D c f
section
variable {w : World} {P : Program} {t k e : TypeId} {m n c : Nat} {f : Int → Option Value}
theorem IM.made (w : World) (P : Program) (k : TypeId) : IM (w.alloc (.map #[] 0)) P k w.heap.size 0 0 (fun _ => none) :=
  ⟨.map [], World.ownsMap_made w P k _, Maps.tidy_empty, rfl, fun a => ⟨rfl, fun zd => rfl⟩⟩
theorem IM.lt (h : IM w P k m n c f) : m < w.heap.size := by
  obtain ⟨D, h1, _⟩ := h; exact h1.lt
theorem IM.mono (h : IM w P k m n c f) {n' : Nat} (hn : n ≤ n') : IM w P k m n' c f := by
  obtain ⟨D, h1, h2⟩ := h; exact ⟨D, h1.mono hn, h2⟩
theorem IM.fr {F : Nat → Prop} {w' : World} (h : IM w P k m n c f) (hf : Fr F w w') (hm : ¬ F m) : IM w' P k m n c f := by
  obtain ⟨D, ⟨es, clock, hb, r⟩, h2⟩ := h
  exact ⟨D, ⟨es, clock, (hf.block m (Array.getElem?_eq_some_iff.1 hb).1 hm).trans hb, r⟩, h2⟩
theorem IM.notTy (h : IM w P k m n c f) (ts : List Nat) : ¬ hasTy w ts m := by
  obtain ⟨D, ⟨es, clock, hb, _⟩, _⟩ := h
  rintro ⟨cur, t, h1, _⟩
  rw [hb] at h1
  simp at h1
theorem IM.ne_blk (h : IM w P k m n c f) {b : Nat} {t : TypeId} {vs : List Value} (hb : Blk w b t vs) : m ≠ b := fun e => by
  subst e
  exact h.notTy [t] (hb.hasTy (by simp))
theorem held_inj {v u : Value} {ps : List MemPlace} (h : hR v = some (.held u, ps)) : v = u := by
  simp [hR] at h
  exact h.1
theorem IM.lookup (h : IM w P k m n c f) (hk : P.underlying k = some (.int .i64)) (ht : P.underlying t = some (.map k e)) {z : Value} (hz : (zeroValue e).run P w = .ok z w) {a : Int} (ha : IntKind.i64.min ≤ a ∧ a ≤ IntKind.i64.max) :
    (Instr.lookup t (.map (some m)) (.int .i64 a) false).run P w = .ok ((f a).getD z) w := by
  obtain ⟨D, h1, h2, h3, h4⟩ := h
  obtain ⟨v, ps, hrun, hv⟩ := h1.lookup (Maps.int_keyed hk) ht hz (zd := .held z) (zp := []) rfl (key_int hk ha)
  rw [hrun]
  rw [(h4 a).2] at hv
  cases hf : f a with
  | none => rw [hf] at hv; rw [held_inj hv]; rfl
  | some u => rw [hf] at hv; rw [held_inj hv]; rfl
theorem IM.look_ok (h : IM w P k m n c f) (hk : P.underlying k = some (.int .i64)) (ht : P.underlying t = some (.map k e)) {z : Value} (hz : (zeroValue e).run P w = .ok z w) {a : Int} (ha : IntKind.i64.min ≤ a ∧ a ≤ IntKind.i64.max) :
    (Instr.lookup t (.map (some m)) (.int .i64 a) true).run P w = .ok (.tuple #[(f a).getD z, .bool (f a).isSome]) w := by
  obtain ⟨D, h1, h2, h3, h4⟩ := h
  obtain ⟨v, ps, hrun, hv⟩ := h1.look_ok (Maps.int_keyed hk) ht hz (zd := .held z) (zp := []) rfl (key_int hk ha)
  rw [hrun, (h4 a).1]
  rw [(h4 a).2] at hv
  cases hf : f a with
  | none => rw [hf] at hv; rw [held_inj hv]; rfl
  | some u => rw [hf] at hv; rw [held_inj hv]; rfl
theorem grown_fr {w' : World} {b : Nat} (g : w.grownBy w' (some b)) : Fr (fun k => k = b) w w' := ⟨g.os, g.tape, g.output, g.size, fun i hi hne => g.block i hi (fun e => hne (by simpa using e))⟩
theorem IM.update (h : IM w P k m n c f) (hk : P.underlying k = some (.int .i64)) (ht : P.underlying t = some (.map k e)) (hn : n < maxLen) {a : Int} (ha : IntKind.i64.min ≤ a ∧ a ≤ IntKind.i64.max) (v : Value) :
    ∃ w', (Instr.mapUpdate t (.map (some m)) (.int .i64 a) v).run P w = .ok () w' ∧ IM w' P k m (n + 1) (if (f a).isSome then c else c + 1) (updI f a (some v)) ∧ Fr (fun b => b = m) w w' := by
  obtain ⟨D, h1, h2⟩ := h
  have hkey := key_int hk ha
  obtain ⟨w', hrun, o, g⟩ := h1.update (Maps.int_keyed hk) ht hn hkey (val := v) (d := .held v) (ps := []) rfl
  exact ⟨w', hrun, ⟨_, o, h2.put ((Maps.int_keyed hk).key hkey) v⟩, grown_fr g⟩
theorem IM.delete (h : IM w P k m n c f) (hk : P.underlying k = some (.int .i64)) (ht : P.underlying t = some (.map k e)) {a : Int} (ha : IntKind.i64.min ≤ a ∧ a ≤ IntKind.i64.max) (ty : TypeId) :
    ∃ w', (Builtin.delete_ #[t, k] ty #[.map (some m), .int .i64 a]).run P w = .ok (.tuple #[]) w' ∧ IM w' P k m n (if (f a).isSome then c - 1 else c) (updI f a none) ∧ Fr (fun b => b = m) w w' := by
  obtain ⟨D, h1, h2⟩ := h
  obtain ⟨w', hrun, o, g⟩ := h1.drop (Maps.int_keyed hk) ht (key_int hk ha) ty
  exact ⟨w', hrun, ⟨_, o, h2.del a⟩, grown_fr g.grown⟩
theorem IM.len (h : IM w P k m n c f) (ht : P.underlying t = some (.map k e)) (ty : TypeId) : (Builtin.len_ #[t] ty #[.map (some m)]).run P w = .ok (.int .i64 (c : Int)) w := by
  obtain ⟨D, h1, _, h2, _⟩ := h
  rw [h1.len ht ty, h2]
theorem IM.count_le (h : IM w P k m n c f) : c ≤ n := by
  obtain ⟨D, h1, _, h2, _⟩ := h
  rw [← h2]; exact h1.size_le
theorem IM.tight (h : IM w P k m n c f) : IM w P k m c c f := by
  obtain ⟨D, ⟨es, clock, hb, F, hs, rfl⟩, h2⟩ := h
  refine ⟨_, ⟨es, clock, hb, F, ?_, rfl⟩, h2⟩
  have := h2.2.1
  simp only [Maps.size, length_sorted, List.length_map, Array.length_toList] at this
  omega
/-- A walk under way. -/
def RG (w : World) (P : Program) (k : TypeId) (m r n c : Nat) (f : Int → Option Value) (left : Int → Bool) (cnt : Nat) : Prop :=
  ∃ D L, w.ranges P k hR m r n D L cnt ∧ Vw D c f ∧ ∀ a, L (.int .i64 a) = left a
theorem IM.range (h : IM w P k m n c f) (hk : P.underlying k = some (.int .i64)) (ht : P.underlying t = some (.map k e)) :
    ∃ w' cnt, (Instr.range t (.map (some m))).run P w = .ok (.pointer (some ⟨w.heap.size, 0, none⟩)) w' ∧ RG w' P k m w.heap.size n c f (fun a => (f a).isSome) cnt ∧ Fr none1 w w' := by
  obtain ⟨D, h1, h2⟩ := h
  obtain ⟨w', hrun, hr, g, _⟩ := h1.range (Maps.int_keyed hk) ht
  exact ⟨w', _, hrun, ⟨D, _, hr, h2, fun a => (h2.2.2 a).1⟩, ⟨g.os, g.tape, g.output, g.size, fun b hb _ => g.block b hb (by simp)⟩⟩
variable {r cnt : Nat} {left : Int → Bool}
theorem RG.im (h : RG w P k m r n c f left cnt) : IM w P k m n c f := by
  obtain ⟨D, L, h1, h2, _⟩ := h
  exact ⟨D, h1.owns, h2⟩
theorem RG.left_eq (h : RG w P k m r n c f left cnt) : w.rangeLeft m r = cnt := by
  obtain ⟨D, L, h1, _⟩ := h; exact h1.left_eq
theorem RG.ne (h : RG w P k m r n c f left cnt) : r ≠ m := by
  obtain ⟨D, L, h1, _⟩ := h; exact h1.ne
theorem RG.lt (h : RG w P k m r n c f left cnt) : r < w.heap.size := by
  obtain ⟨D, L, h1, _⟩ := h; exact h1.lt
theorem RG.notTy (h : RG w P k m r n c f left cnt) (ts : List Nat) : ¬ hasTy w ts r := by
  obtain ⟨D, L, ⟨es, clock, since, seen, c0, _, _, _, _, hr, _⟩, _⟩ := h
  rintro ⟨cur, t, h1, _⟩
  rw [hr] at h1
  simp at h1
theorem RG.fr {F : Nat → Prop} {w' : World} (h : RG w P k m r n c f left cnt) (hf : Fr F w w') (hm : ¬ F m) (hr : ¬ F r) : RG w' P k m r n c f left cnt := by
  obtain ⟨D, L, ⟨es, clock, since, seen, c0, hb, a1, a2, a3, hr', rest⟩, h2⟩ := h
  exact ⟨D, L, ⟨es, clock, since, seen, c0, (hf.block m (Array.getElem?_eq_some_iff.1 hb).1 hm).trans hb, a1, a2, a3, (hf.block r (Array.getElem?_eq_some_iff.1 hr').1 hr).trans hr', rest⟩, h2⟩
theorem RG.next (h : RG w P k m r n c f left cnt) (hk : P.underlying k = some (.int .i64)) (ty : TypeId) :
    ((∀ a, left a = false) ∧ (Instr.next (.pointer (some ⟨r, 0, none⟩)) false ty).run P w = .ok (.tuple #[.bool false]) w) ∨
    ∃ (a : Int) (v : Value) (w' : World) (cnt' : Nat), (IntKind.i64.min ≤ a ∧ a ≤ IntKind.i64.max) ∧ left a = true ∧ f a = some v ∧ (Instr.next (.pointer (some ⟨r, 0, none⟩)) false ty).run P w = .ok (.tuple #[.bool true, .int .i64 a, v]) w' ∧
      RG w' P k m r n c f (fun x => left x && !decide (x = a)) cnt' ∧ cnt' < cnt ∧ Fr (fun b => b = r) w w' ∧ (Instr.entry (.pointer (some ⟨r, 0, none⟩))).run P w' = .ok (.tuple #[.int .i64 a, v]) w' := by
  obtain ⟨D, L, h1, h2, h3⟩ := h
  have K := Maps.int_keyed (q := .i64) hk
  rcases h1.next K ty with ⟨_, h0, hrun⟩ | ⟨key, v, kl, y, w', cnt', hkey, hl, hR, hat, hrun, hr, hc, g, hsz, hent⟩
  · exact .inl ⟨fun a => by rw [← h3]; exact h0 _, hrun⟩
  · obtain ⟨a, rfl, rfl⟩ := key_int_inv hk hkey
    have hy : y = (.held v, []) := by simp only [Go.Eng.hR, Option.some.injEq] at hR; exact hR.symm
    subst hy
    have hf : f a = some v := by
      have h4 := (h2.2.2 a).2
      cases hfa : f a with
      | none =>
        have h5 := h4 .nil
        rw [hfa, hat] at h5
        cases h5
      | some u =>
        have h5 := h4 .nil
        rw [hfa, hat] at h5
        cases h5; rfl
    have hwf := K.key hkey
    have hab : IntKind.i64.min ≤ a ∧ a ≤ IntKind.i64.max := by
      unfold keyOf at hkey
      rw [hk] at hkey
      simp only [mapKey, hk] at hkey
      split at hkey
      · rename_i hw
        simpa [Lit.wf] using hw
      · cases hkey
    refine .inr ⟨a, v, w', cnt', hab, by rw [← h3]; exact hl, hf, hrun, ⟨D, _, hr, h2, fun x => ?_⟩, hc, grown_fr g, hent⟩
    show (L (.int .i64 x) && !(Lit.int .i64 x).sameKey (.int .i64 a)) = _
    rw [h3]
    by_cases e : x = a
    · subst e
      rw [WideAt.sameKey_self hwf]; simp
    · rw [Maps.sameKey_ne (lit_ne e)]; simp [e]
/-- A store on the way, at a key that is there. -/
theorem RG.update (h : RG w P k m r n c f left cnt) (hk : P.underlying k = some (.int .i64)) (ht : P.underlying t = some (.map k e)) (hn : n < maxLen) {a : Int} {v0 : Value} (ha : IntKind.i64.min ≤ a ∧ a ≤ IntKind.i64.max) (hf : f a = some v0) (val : Value) :
    ∃ w2, (Instr.mapUpdate t (.map (some m)) (.int .i64 a) val).run P w = .ok () w2 ∧ RG w2 P k m r n c (updI f a (some val)) left cnt ∧ Fr (fun b => b = m) w w2 := by
  have K := Maps.int_keyed (q := .i64) hk
  have hkey := key_int hk ha
  have hne := h.ne
  obtain ⟨D, L, h1, h2, h3⟩ := h
  obtain ⟨es, clock, since, seen, c0, hb, F, hs, rfl, hr, hold, hcnt, hl1, hl2, hsc, hsk⟩ := h1
  obtain ⟨es', clock', hrun, F', hput, _⟩ := Maps.fit_store (R' := hR) K ht hb F (Nat.lt_of_le_of_lt hs hn) (fun _ _ _ _ hz => hz) hkey (val := val) (yv := (.held val, [])) rfl
  have vw := h2.put (K.key hkey) val
  rw [hf] at vw
  rcases K.find w hkey es.toList F.keys with ⟨f1, f2⟩ | ⟨j, e0, f1, f2, f3⟩
  · -- no entry at that key
    exfalso
    have hh := (h2.2.2 a).1
    rw [hf] at hh
    obtain ⟨p, hp, hpk⟩ := List.any_eq_true.1 hh
    obtain ⟨x, hx, rfl⟩ := List.mem_map.1 (mem_sorted.1 hp)
    obtain ⟨y, hy⟩ := F.reads x hx
    have e5 := WideAt.sameKey_eq hpk
    rw [rg_of hy] at e5
    have h7 := rd_key hy
    rw [e5] at h7
    exact f2 x hx (K.inj h7 hkey)
  · have hj : es[j]? = some e0 := by simpa using f2
    have hrun2 : (Instr.mapUpdate t (.map (some m)) (.int .i64 a) val).run P w = .ok () (setBlock w m (.map (es.modify j fun e' => { e' with key := .int .i64 a, val := val }) clock)) := by
      simp [Instr.mapUpdate, run_underlying ht, MapKept.run_getObj_map hb, K.check w false hkey, f1, hj, f3, K.stays w hkey, MapKept.run_setObj_map _ hb, Result.andThen, setBlock]
    have heq : setBlock w m (.map es' clock') = setBlock w m (.map (es.modify j fun e' => { e' with key := .int .i64 a, val := val }) clock) := by
      rw [hrun] at hrun2
      simpa using hrun2
    have hbe : (setBlock w m (.map es' clock')).heap[m]? = (setBlock w m (.map (es.modify j fun e' => { e' with key := .int .i64 a, val := val }) clock)).heap[m]? := by rw [heq]
    rw [heap_setBlock_same hb, heap_setBlock_same hb] at hbe
    simp only [Option.some.injEq, Obj.map.injEq] at hbe
    obtain ⟨hes, hck⟩ := hbe
    have hlist : (es.modify j (fun e' => { e' with key := .int .i64 a, val := val })).toList = es.toList.set j { e0 with key := .int .i64 a, val := val } := by rw [Array.toList_modify, modify_eq_set _ _ _ _ f2]
    have he0 : e0 ∈ es.toList := List.mem_of_getElem? f2
    have hborn : es'.toList.map (·.born) = es.toList.map (·.born) := by
      rw [hes, hlist]
      apply List.ext_getElem?
      intro i
      rw [List.getElem?_map, List.getElem?_map, List.getElem?_set]
      by_cases e : j = i
      · subst e
        have hjl := (List.getElem?_eq_some_iff.1 f2).1
        rw [if_pos rfl, if_pos hjl, f2]
        rfl
      · rw [if_neg e]
    have hsz : ∀ es : Array MapEntry, (leftOf es seen).size = ((es.toList.map (·.born)).filter fun b => !seen.contains b).length := by
      intro es
      unfold leftOf
      rw [← Array.length_toList, Array.toList_filter, List.filter_map, List.length_map]
      rfl
    have who : ∀ x ∈ es'.toList, x = { e0 with key := .int .i64 a, val := val } ∨ x ∈ es.toList := by
      intro x hx
      rw [hes, hlist] at hx
      exact (List.mem_or_eq_of_mem_set hx).symm
    have krg : (rg P k hR { e0 with key := .int .i64 a, val := val }).1 = .int .i64 a := by
      rw [rg_of (rd_mk hkey (yv := (.held val, [])) rfl)]
    have krg0 : (rg P k hR e0).1 = .int .i64 a := by
      obtain ⟨y, hy⟩ := F.reads e0 he0
      have h7 := rd_key hy
      rw [f3, hkey] at h7
      rw [rg_of hy]
      exact (Option.some.inj h7).symm
    refine ⟨_, hrun, ⟨_, L, ⟨es', clock', since, seen, c0, heap_setBlock_same hb _, F', ?_, rfl, (heap_setBlock_other hb _ hne).trans hr, ?_, ?_, ?_, ?_, hsc, by rw [hck]; exact hsk⟩, ?_, h3⟩, ⟨rfl, rfl, rfl, by simp [setBlock], fun i _ hi => heap_setBlock_other hb _ hi⟩⟩
    · have := congrArg List.length hborn
      simp at this
      omega
    · intro x hx
      rcases who x hx with rfl | hx
      · exact hold e0 he0
      · exact hold x hx
    · rw [← hcnt, hsz, hsz, hborn]
    · intro x hx
      rcases who x hx with rfl | hx
      · rw [krg, ← krg0]; exact hl1 e0 he0
      · exact hl1 x hx
    · intro kl hkl
      obtain ⟨x, hx, hxk⟩ := hl2 kl hkl
      obtain ⟨i, hi⟩ := List.getElem?_of_mem hx
      by_cases e : i = j
      · subst e
        rw [f2] at hi
        cases hi
        refine ⟨{ e0 with key := .int .i64 a, val := val }, ?_, by rw [krg, ← krg0]; exact hxk⟩
        rw [hes, hlist]
        have hjl := (List.getElem?_eq_some_iff.1 f2).1
        exact List.mem_iff_getElem?.2 ⟨i, by rw [List.getElem?_set, if_pos rfl, if_pos hjl]⟩
      · refine ⟨x, ?_, hxk⟩
        rw [hes, hlist]
        exact List.mem_iff_getElem?.2 ⟨i, by rw [List.getElem?_set_ne (Ne.symm e)]; exact hi⟩
    · have hD : DataW.map ((es'.toList.map (rg P k hR)).foldr DataW.insert []) = (DataW.map ((es.toList.map (rg P k hR)).foldr DataW.insert [])).put (.int .i64 a) (.held val) := by
        rw [hput]
        exact (DataW.put_eq ..).symm
      rw [hD]
      simpa using vw
/-- 'm[k] op= v' on the way, at a key that is there. -/
theorem RG.entry (h : RG w P k m r n c f left cnt) (hk : P.underlying k = some (.int .i64)) (ht : P.underlying t = some (.map k e)) {z : Value} (hz : ∀ w, (zeroValue e).run P w = .ok z w) (hn : n < maxLen) {a : Int} {v0 : Value} (ha : IntKind.i64.min ≤ a ∧ a ≤ IntKind.i64.max) (hf : f a = some v0) :
    ∃ (s : Int) (w1 : World), (Instr.mapEntry t (.map (some m)) (.int .i64 a)).run P w = .ok (.tuple #[v0, .int .i64 s]) w1 ∧ Fr (fun b => b = m) w w1 ∧
      ∀ val, ∃ w2, (Instr.entryStore t (.map (some m)) (.int .i64 s) val).run P w1 = .ok () w2 ∧ RG w2 P k m r n c (updI f a (some val)) left cnt ∧ Fr (fun b => b = m) w w2 := by
  have K := Maps.int_keyed (q := .i64) hk
  have hkey := key_int hk ha
  have step := h.update hk ht hn ha hf
  have hlk := h.im.lookup hk ht (hz w) ha
  rw [hf] at hlk
  obtain ⟨D, L, h1, h2, h3⟩ := h
  obtain ⟨v, s, w1, e1, e2, e3, e4⟩ := mapEntry_eq h1.owns K ht hz hkey
  rw [e3] at hlk
  have hv : v = v0 := by simpa using hlk
  subst hv
  refine ⟨s, w1, e1, ?_, fun val => ?_⟩
  · obtain ⟨w2, r2, _, g2⟩ := step v
    rw [e2] at r2
    cases r2
    exact g2
  · obtain ⟨w2, e5, e6⟩ := e4 val
    obtain ⟨w3, r3, m3, g3⟩ := step val
    rw [e6] at r3
    cases r3
    exact ⟨w2, e5, m3, g3⟩
end
end Go.Eng
