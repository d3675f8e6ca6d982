/- 'm[k] op= v' on a map of a call's own. -/
import Derived.Test.YtmhjjhpgbafjpaaDoorMapK2
import Derived.Maps.Keyed
set_option linter.unusedVariables false
namespace Go.Eng
open Go Go.ChangeMaps Go.WideElems
theorem find_last {es : Array MapEntry} {clock : Nat} {x : MapEntry} (hlt : ∀ y ∈ es.toList, y.born < clock) (hx : x.born = clock) : (es.push x).findIdx? (fun e => (e.born : Int) == (clock : Int)) = some es.size := by
  rw [Array.findIdx?_eq_some_iff_getElem]
  refine ⟨by simp, by simp [hx], fun j hj => ?_⟩
  rw [Array.getElem_push_lt hj]
  have := hlt es[j] (by simp)
  simp; omega
theorem find_at {es : Array MapEntry} {j : Nat} {x : MapEntry} {f : MapEntry → MapEntry} (hf : ∀ e, (f e).born = e.born) (hj : es[j]? = some x) (hn : (es.toList.map (·.born)).Nodup) : (es.modify j f).findIdx? (fun e => (e.born : Int) == (x.born : Int)) = some j := by
  have hjl := (Array.getElem?_eq_some_iff.1 hj).1
  have hxe := (Array.getElem?_eq_some_iff.1 hj).2
  rw [Array.findIdx?_eq_some_iff_getElem]
  refine ⟨by simpa using hjl, by simp [Array.getElem_modify, hf, hxe], fun i hi => ?_⟩
  rw [Array.getElem_modify]
  rw [if_neg (by omega)]
  have pw := List.pairwise_iff_getElem.1 hn i j (by simp; omega) (by simpa using hjl) hi
  simp at pw
  simp
  rw [← hxe]
  omega
theorem setBlock_twice (w : World) (b : Nat) (o1 o2 : Obj) : setBlock (setBlock w b o1) b o2 = setBlock w b o2 := by
  simp [setBlock]
theorem push_modify (es : Array MapEntry) (x : MapEntry) (f : MapEntry → MapEntry) : (es.push x).modify es.size f = es.push (f x) := by
  apply Array.ext
  · simp
  · intro i h1 h2
    rw [Array.getElem_modify, Array.getElem_push, Array.getElem_push]
    simp at h1
    by_cases h : i < es.size
    · simp [h]; omega
    · have : i = es.size := by omega
      subst this; simp
theorem modify_congr {es : Array MapEntry} {j : Nat} {x : MapEntry} {f f' : MapEntry → MapEntry} (hj : es[j]? = some x) (h : f x = f' x) : es.modify j f = es.modify j f' := by
  apply Array.ext
  · simp
  · intro i h1 h2
    rw [Array.getElem_modify, Array.getElem_modify]
    split
    · rename_i e
      subst e
      rw [(Array.getElem?_eq_some_iff.1 hj).2, h]
    · rfl
theorem modify_modify (es : Array MapEntry) (j : Nat) (f f' : MapEntry → MapEntry) : (es.modify j f).modify j f' = es.modify j (fun e => f' (f e)) := by
  apply Array.ext
  · simp
  · intro i h1 h2
    rw [Array.getElem_modify, Array.getElem_modify, Array.getElem_modify]
    split <;> rfl
/-- An entry is found or laid; a store at its stamp is a store at its key. -/
theorem mapEntry_eq {H : Type} {w : World} {P : Program} {t k e : TypeId} {R : Value → Option (DataW H × List MemPlace)} {b n : Nat} {D : DataW H} (h : w.ownsMap P k R b n D) (K : Maps.Keyed P k) (ht : P.underlying t = some (.map k e)) {z : Value} (hz : ∀ w, (zeroValue e).run P w = .ok z w)
    {key : Value} {kl : Lit} (hkey : keyOf P k key = some kl) :
    ∃ (v : Value) (s : Int) (w1 : World), (Instr.mapEntry t (.map (some b)) key).run P w = .ok (.tuple #[v, .int .i64 s]) w1 ∧ (Instr.mapUpdate t (.map (some b)) key v).run P w = .ok () w1 ∧ (Instr.lookup t (.map (some b)) key false).run P w = .ok v w ∧
      ∀ val, ∃ w2, (Instr.entryStore t (.map (some b)) (.int .i64 s) val).run P w1 = .ok () w2 ∧ (Instr.mapUpdate t (.map (some b)) key val).run P w = .ok () w2 := by
  obtain ⟨es, clock, hb, F, _, _⟩ := h
  have lt := (Array.getElem?_eq_some_iff.1 hb).1
  have hst := (MapKept.stamped_iff es clock).1 F.stamped
  rcases K.find w hkey es.toList F.keys with ⟨h1, h2⟩ | ⟨j, e0, h1, h2, h3⟩
  · refine ⟨z, clock, setBlock w b (.map (es.push ⟨key, z, clock⟩) (clock + 1)), ?_, ?_, ?_, fun val => ⟨setBlock w b (.map (es.push ⟨key, val, clock⟩) (clock + 1)), ?_, ?_⟩⟩
    · simp [Instr.mapEntry, run_underlying ht, MapKept.run_getObj_map hb, K.check w false hkey, h1, hz, MapKept.run_setObj_map _ hb, Result.andThen, setBlock, goInt]
    · simp [Instr.mapUpdate, run_underlying ht, MapKept.run_getObj_map hb, K.check w false hkey, h1, MapKept.run_setObj_map _ hb, Result.andThen, setBlock]
    · simp [Instr.lookup, run_underlying ht, MapKept.run_getObj_map hb, K.check w _ hkey, h1, hz, Result.andThen]
    · have hb1 : (setBlock w b (.map (es.push ⟨key, z, clock⟩) (clock + 1))).heap[b]? = some (.map (es.push ⟨key, z, clock⟩) (clock + 1)) := by simp [setBlock, lt]
      have hfi := find_last (x := ⟨key, z, clock⟩) hst.1 rfl
      have e1 : (Instr.entryStore t (.map (some b)) (.int .i64 (clock : Int)) val).run P (setBlock w b (.map (es.push ⟨key, z, clock⟩) (clock + 1))) = .ok () (setBlock (setBlock w b (.map (es.push ⟨key, z, clock⟩) (clock + 1))) b (.map ((es.push ⟨key, z, clock⟩).modify es.size fun e => { e with val := val }) (clock + 1))) := by
        simp only [Instr.entryStore, Sem.run_bind, MapKept.run_getObj_map hb1, asInt, asIntOf, Result.andThen, hfi, MapKept.run_setObj_map _ hb1, Sem.run_pure]
        rfl
      rw [e1, setBlock_twice, push_modify]
    · simp [Instr.mapUpdate, run_underlying ht, MapKept.run_getObj_map hb, K.check w false hkey, h1, MapKept.run_setObj_map _ hb, Result.andThen, setBlock]
  · have hj : es[j]? = some e0 := by simpa using h2
    refine ⟨e0.val, e0.born, setBlock w b (.map (es.modify j fun e' => { e' with key := key }) clock), ?_, ?_, ?_, fun val => ⟨setBlock w b (.map (es.modify j fun e' => { e' with key := key, val := val }) clock), ?_, ?_⟩⟩
    · simp [Instr.mapEntry, run_underlying ht, MapKept.run_getObj_map hb, K.check w false hkey, h1, hj, h3, K.stays w hkey, MapKept.run_setObj_map _ hb, Result.andThen, setBlock, goInt]
    · simp [Instr.mapUpdate, run_underlying ht, MapKept.run_getObj_map hb, K.check w false hkey, h1, hj, h3, K.stays w hkey, MapKept.run_setObj_map _ hb, Result.andThen, setBlock]
      rw [modify_congr (f' := fun e' => { key := key, val := e'.val, born := e'.born }) hj rfl]
    · simp [Instr.lookup, run_underlying ht, MapKept.run_getObj_map hb, K.check w _ hkey, h1, Result.andThen]
    · have hb1 : (setBlock w b (.map (es.modify j fun e' => { e' with key := key }) clock)).heap[b]? = some (.map (es.modify j fun e' => { e' with key := key }) clock) := by simp [setBlock, lt]
      have hfi := find_at (f := fun e' => { e' with key := key }) (fun _ => rfl) hj hst.2.1
      have e1 : (Instr.entryStore t (.map (some b)) (.int .i64 (e0.born : Int)) val).run P (setBlock w b (.map (es.modify j fun e' => { e' with key := key }) clock)) = .ok () (setBlock (setBlock w b (.map (es.modify j fun e' => { e' with key := key }) clock)) b (.map ((es.modify j fun e' => { e' with key := key }).modify j fun e => { e with val := val }) clock)) := by
        simp only [Instr.entryStore, Sem.run_bind, MapKept.run_getObj_map hb1, asInt, asIntOf, Result.andThen, hfi, MapKept.run_setObj_map _ hb1, Sem.run_pure]
        rfl
      rw [e1, setBlock_twice, modify_modify]
    · simp [Instr.mapUpdate, run_underlying ht, MapKept.run_getObj_map hb, K.check w false hkey, h1, hj, h3, K.stays w hkey, MapKept.run_setObj_map _ hb, Result.andThen, setBlock]
end Go.Eng
namespace Go.Eng
theorem MapAt.entry {w : World} {P : Program} {t k e : TypeId} {m n : Nat} {f : Lit → Int} (h : MapAt w P k e m n f) (K : Maps.Keyed P k) (ht : P.underlying t = some (.map k e)) (he : P.underlying e = some (.int .i64)) (hz : ∀ w, (zeroValue e).run P w = .ok (.int .i64 0) w) (hn : n < maxLen)
    {key : Value} {kl : Lit} (hkey : keyOf P k key = some kl) (hl : WideAt.IsKeyLit kl) :
    ∃ (s : Int) (w1 : World), (Instr.mapEntry t (.map (some m)) key).run P w = .ok (.tuple #[.int .i64 (f kl), .int .i64 s]) w1 ∧ MapAt w1 P k e m (n + 1) f ∧ Fr (fun b => b = m) w w1 ∧
      ∀ (v : Int) (f' : Lit → Int), (Lit.int .i64 v).wf = true → f' kl = v → (∀ l, l ≠ kl → f' l = f l) →
        ∃ w2, (Instr.entryStore t (.map (some m)) (.int .i64 s) (.int .i64 v)).run P w1 = .ok () w2 ∧ MapAt w2 P k e m (n + 1) f' ∧ Fr (fun b => b = m) w w2 := by
  have hlk := h.lookup K ht he hz hkey hl
  obtain ⟨D, o1, o2, o3⟩ := h
  obtain ⟨c, hrun, hat, hwf⟩ := o1.lookup_int K ht he (hz w) hkey
  obtain ⟨v0, s, w1, e1, e2, e3, e4⟩ := mapEntry_eq o1 K ht hz hkey
  rw [hlk] at e3 hrun
  cases e3
  have hc : f kl = c := by simpa using hrun
  rw [← hc] at hwf
  obtain ⟨w', r1, m1, f1⟩ := MapAt.update (f' := f) ⟨D, o1, o2, o3⟩ K ht he hn hkey hl hwf rfl (fun _ _ => rfl)
  rw [e2] at r1
  cases r1
  refine ⟨s, w1, e1, m1, f1, fun v f' hv h1 h2 => ?_⟩
  obtain ⟨w2, e5, e6⟩ := e4 (.int .i64 v)
  obtain ⟨w', r2, m2, f2⟩ := MapAt.update (f' := f') ⟨D, o1, o2, o3⟩ K ht he hn hkey hl hv h1 h2
  rw [e6] at r2
  cases r2
  exact ⟨w2, e5, m2, f2⟩
end Go.Eng
