/- Made maps whose keys are structs: 'm[k] = v' in one, 'delete(m, k)'. Conditions: each law's own. -/
import Derived.Test.YtmdfilffoomckaaMaps
namespace Go.Proofs.Ytmdfilffoomckaa
open Go.ChangeShapes Go.WideShapes Go.ChangeAt Go.RowKit

section
variable {P : Program} {t : TypeId} {K : Type} {enc : K → Array Value}
theorem findIn_val_none [DecidableEq K] {l : List (K × Value × Nat)} {k : K} (h : findIn l k 0 = none) : valOf l k = none := by
  rw [← findIn_val k l 0, h]; rfl
theorem setVal_other [DecidableEq K] {l : List (K × Value × Nat)} {k : K} (v : Value) (h : ∀ x ∈ l, x.1 ≠ k) : setVal l k v = l := by
  unfold setVal
  conv => rhs; rw [← List.map_id l]
  refine List.map_congr_left fun x hx => ?_
  unfold setOne
  rw [if_neg (h x hx)]; rfl
/-- 'm[k] = v'. -/
theorem run_mapUpdate_made [DecidableEq K] (L : KeyLaw P t enc) {mt e : TypeId} (hm : P.underlying mt = some (.map t e)) {w : World} {r : Nat} {l : List (K × Value × Nat)} {clock clock0 : Nat} (h : MapAt enc w r l clock) (hF : Fresh l clock0) (k : K) (v : Value) :
    (Instr.mapUpdate mt (.map (some r)) (.agg (enc k)) v).run P w = .ok () (putMap enc w r (setVal (touch l k v clock) k v) (clockOf l k clock)) := by
  have hg : (getObj r).run P w = .ok (.map (ents enc l) clock) w := MapKept.run_getObj_map h
  have hs : ∀ o, (setObj r o).run P w = .ok () { w with heap := w.heap.setIfInBounds r o } := fun o => MapKept.run_setObj_map o h
  have hf := run_findKey L k l w
  have he : (ents enc l).toList = l.map (ent enc) := by simp [ents]
  have hv := findIn_val k l 0
  unfold Instr.mapUpdate
  simp only [Sem.run_bind, run_underlying hm, Result.andThen_ok, hg, L.chk, he, hf]
  cases hfi : findIn l k 0 with
  | none =>
    have hn := findIn_none k l 0 hfi
    have hvn := findIn_val_none hfi
    have e1 : setVal (touch l k v clock) k v = l ++ [(k, v, clock)] := by
      unfold touch
      rw [hvn]
      have := setVal_other v hn
      unfold setVal at *
      simp [this, setOne]
    simp only [Sem.run_bind, hs, e1, clockOf, hvn]
    simp [putMap, ents, ent]
  | some x =>
    obtain ⟨j, v0⟩ := x
    rw [hfi] at hv
    simp only [Option.map_some] at hv
    obtain ⟨m, y, hj, hy, h1, h2, h3⟩ := findIn_at k l 0 j v0 hfi
    obtain rfl : j = m := by omega
    have hey : (ents enc l)[j]? = some (ent enc y) := by simp [ents, hy]
    simp only [Sem.run_bind, hey, Option.map_some, Option.getD_some]
    have hk : (Instr.keyThatStays (ent enc y).key (.agg (enc k))).run P w = .ok (.agg (enc k)) w := by
      unfold Instr.keyThatStays
      have : (ent enc y).key = .agg (enc k) := by simp [ent, h1]
      rw [this, L.bits]
      rfl
    have hmod : ((ents enc l).modify j fun e => { key := .agg (enc k), val := v, born := e.born }) = ents enc (setVal l k v) := by
      apply Array.ext
      · simp [ents, setVal]
      · intro i g1 g2
        have hil : i < l.length := by simpa [ents] using g1
        rw [Array.getElem_modify]
        have g3 : (ents enc l)[i]'(by simpa [ents] using hil) = ent enc l[i] := by simp [ents]
        have g4 : (ents enc (setVal l k v))[i] = ent enc (if l[i].1 = k then (l[i].1, v, l[i].2.2) else l[i]) := by simp [ents, setVal, setOne]
        rw [g4]
        have hyj : l[j]'((List.getElem?_eq_some_iff.1 hy).1) = y := (List.getElem?_eq_some_iff.1 hy).2
        split
        · rename_i hij
          subst hij
          rw [g3, hyj, if_pos h1, h1]; rfl
        · rename_i hij
          rw [g3, if_neg]
          intro e
          exact hij (nodup_at hF.2.2 (i := j) (j := i) (x := k) (by simp [hy, h1]) (by simp [List.getElem?_eq_getElem hil, e]))
    rw [hk]
    simp only [Result.andThen_ok, hmod, hs, touch, clockOf, ← hv, Option.isSome_some, if_true]
    rfl
/-- The entries without k's. -/
def dropKey [DecidableEq K] (l : List (K × Value × Nat)) (k : K) : List (K × Value × Nat) := l.filter fun x => decide (x.1 ≠ k)
theorem dropKey_none [DecidableEq K] {l : List (K × Value × Nat)} {k : K} (h : ∀ x ∈ l, x.1 ≠ k) : dropKey l k = l := by
  unfold dropKey
  exact List.filter_eq_self.2 (fun x hx => by simpa using h x hx)
theorem dropKey_at [DecidableEq K] : ∀ (l : List (K × Value × Nat)) (k : K) (j : Nat) (y : K × Value × Nat), (l.map (·.1)).Nodup → l[j]? = some y → y.1 = k → dropKey l k = l.eraseIdx j
  | [], _, _, _, _, h, _ => by simp at h
  | x :: l, k, j, y, hn, h, hk => by
    rw [List.map_cons, List.nodup_cons] at hn
    cases j with
    | zero =>
      simp at h; subst h
      have h2 : ∀ z ∈ l, z.1 ≠ k := fun z hz e => hn.1 (by rw [hk, ← e]; exact List.mem_map_of_mem hz)
      have := dropKey_none h2
      unfold dropKey at *
      rw [List.filter_cons]
      simp [hk]
      simpa using h2
    | succ j =>
      have hy : y ∈ l := List.mem_of_getElem? (by simpa using h)
      have hx : x.1 ≠ k := fun e => hn.1 (by rw [e, ← hk]; exact List.mem_map_of_mem hy)
      have ih := dropKey_at l k j y hn.2 (by simpa using h) hk
      unfold dropKey at *
      rw [List.filter_cons]
      simp [hx]
      simpa using ih
theorem run_delete_made [DecidableEq K] (L : KeyLaw P t enc) {mt e ty : TypeId} {ts : Array TypeId} (hts : ts[0]? = some mt) (hm : P.underlying mt = some (.map t e)) {w : World} {r : Nat} {l : List (K × Value × Nat)} {clock clock0 : Nat} (h : MapAt enc w r l clock) (hF : Fresh l clock0) (k : K) :
    (Builtin.delete_ ts ty #[.map (some r), .agg (enc k)]).run P w = .ok (.tuple #[]) (putMap enc w r (dropKey l k) clock) := by
  have hg : (getObj r).run P w = .ok (.map (ents enc l) clock) w := MapKept.run_getObj_map h
  have hs : ∀ o, (setObj r o).run P w = .ok () { w with heap := w.heap.setIfInBounds r o } := fun o => MapKept.run_setObj_map o h
  have hf := run_findKey L k l w
  have he : (ents enc l).toList = l.map (ent enc) := by simp [ents]
  unfold Builtin.delete_
  have e0 : (#[Value.map (some r), Value.agg (enc k)] : Array Value)[0]? = some (.map (some r)) := rfl
  have e1 : (#[Value.map (some r), Value.agg (enc k)] : Array Value)[1]? = some (.agg (enc k)) := rfl
  simp only [hts, e0, e1, Sem.run_bind, run_underlying hm, Result.andThen_ok, hg, L.chk, he, hf]
  cases hfi : findIn l k 0 with
  | none =>
    rw [dropKey_none (findIn_none k l 0 hfi)]
    simp only [Sem.run_bind, hs]
    rfl
  | some x =>
    obtain ⟨j, v0⟩ := x
    obtain ⟨m, y, hj, hy, h1, h2, h3⟩ := findIn_at k l 0 j v0 hfi
    obtain rfl : j = m := by omega
    rw [dropKey_at l k j y hF.2.2 hy h1]
    have hjl : j < l.length := (List.getElem?_eq_some_iff.1 hy).1
    have hmod : (ents enc l).eraseIdxIfInBounds j = ents enc (l.eraseIdx j) := by
      apply Array.toList_inj.1
      simp [ents, List.eraseIdx_eq_take_drop_succ, hjl, Array.eraseIdxIfInBounds]
    simp only [Sem.run_bind, hmod, hs]
    rfl
end
end Go.Proofs.Ytmdfilffoomckaa
