/- Made maps whose keys are structs: lookup, the entry of an assignment, update, delete, in terms of a list of entries. Conditions: each law's own. -/
import Derived.Test.YtmdfilffoomckaaKit
import Derived.MapKept
import Derived.Laws.IdiomRangeMap
namespace Go.Proofs.Ytmdfilffoomckaa
open Go.ChangeShapes Go.WideShapes Go.ChangeAt Go.RowKit

/-- What is asked of a key type: its values are structs, it is compared by '==' in the same world, it can always be hashed. -/
structure KeyLaw (P : Program) (t : TypeId) {K : Type} [DecidableEq K] (enc : K → Array Value) : Prop where
  und : ∃ fs, P.underlying t = some (.struct fs)
  chk : ∀ e k w, (Instr.checkKey e 10000 t (.agg (enc k))).run P w = .ok () w
  eq : ∀ a b w, (Op.equal t (.agg (enc a)) (.agg (enc b))).run P w = .ok (decide (a = b)) w
  bits : ∀ a, Instr.sameBits 10000 (.agg (enc a)) (.agg (enc a)) = true

section
variable {P : Program} {t : TypeId} {K : Type} {enc : K → Array Value}

/-- An entry: key, value, the stamp of its birth. -/
def ent (enc : K → Array Value) (x : K × Value × Nat) : MapEntry := { key := .agg (enc x.1), val := x.2.1, born := x.2.2 }
def ents (enc : K → Array Value) (l : List (K × Value × Nat)) : Array MapEntry := (l.map (ent enc)).toArray
def findIn [DecidableEq K] : List (K × Value × Nat) → K → Nat → Option (Nat × Value)
  | [], _, _ => none
  | x :: l, k, i => if k = x.1 then some (i, x.2.1) else findIn l k (i + 1)

theorem run_findAsking [DecidableEq K] (L : KeyLaw P t enc) (k : K) : ∀ (l : List (K × Value × Nat)) (i : Nat) (w : World), (Instr.findAsking t (.agg (enc k)) (l.map (ent enc)) i).run P w = .ok (findIn l k i) w
  | [], i, w => rfl
  | x :: l, i, w => by
    simp only [List.map_cons, Instr.findAsking, Sem.run_bind, findIn]
    show ((Op.equal t (.agg (enc k)) (.agg (enc x.1))).run P w).andThen _ = _
    rw [L.eq]
    simp only [Result.andThen_ok]
    by_cases h : k = x.1
    · simp [h, ent]
    · simp only [h, decide_false, Bool.false_eq_true, if_false]
      exact run_findAsking L k l (i + 1) w

theorem run_findKey [DecidableEq K] (L : KeyLaw P t enc) (k : K) (l : List (K × Value × Nat)) (w : World) : (Instr.findKey t (.agg (enc k)) (l.map (ent enc))).run P w = .ok (findIn l k 0) w := by
  obtain ⟨fs, hu⟩ := L.und
  unfold Instr.findKey
  simp only [Sem.run_bind, run_underlying hu, Result.andThen_ok]
  cases l with
  | nil => rfl
  | cons x l =>
    simp only [List.map_cons, Instr.findNow, Instr.sameNow]
    exact run_findAsking L k (x :: l) 0 w

def MapAt (enc : K → Array Value) (w : World) (r : Nat) (l : List (K × Value × Nat)) (clock : Nat) : Prop := w.heap[r]? = some (.map (ents enc l) clock)

theorem MapAt.keep {w w' : World} {r : Nat} {l : List (K × Value × Nat)} {clock B : Nat} (h : MapAt enc w r l clock) (hb : Below B w w') (hr : r < B) : MapAt enc w' r l clock := by
  unfold MapAt; rw [hb.block r hr]; exact h
theorem MapAt.lt {w : World} {r : Nat} {l : List (K × Value × Nat)} {clock : Nat} (h : MapAt enc w r l clock) : r < w.heap.size := (Array.getElem?_eq_some_iff.1 h).1
theorem MapAt.alloc {w : World} {r : Nat} {l : List (K × Value × Nat)} {clock : Nat} (h : MapAt enc w r l clock) (o : Obj) : MapAt enc (w.alloc o) r l clock := by
  unfold MapAt; rw [Below.heap_alloc w o r h.lt]; exact h
theorem MapAt.new (w : World) : MapAt enc (w.alloc (.map #[] 0)) w.heap.size [] 0 := heap_alloc_new w _

/-- 'm[k]'. -/
theorem run_lookup_made [DecidableEq K] (L : KeyLaw P t enc) {mt e : TypeId} (hm : P.underlying mt = some (.map t e)) {w : World} {r : Nat} {l : List (K × Value × Nat)} {clock : Nat} (h : MapAt enc w r l clock) (k : K) {z : Value} (hz : ∀ w, (zeroValue e).run P w = .ok z w) :
    (Instr.lookup mt (.map (some r)) (.agg (enc k)) false).run P w = .ok (((findIn l k 0).map (·.2)).getD z) w := by
  unfold Instr.lookup
  have hg : (getObj r).run P w = .ok (.map (ents enc l) clock) w := MapKept.run_getObj_map h
  simp only [Sem.run_bind, run_underlying hm, Result.andThen_ok, hg, Sem.run_pure, L.chk]
  have hf := run_findKey L k l w
  have he : (ents enc l).toList = l.map (ent enc) := by simp [ents]
  rw [he, hf]
  simp only [Result.andThen_ok]
  cases hfi : findIn l k 0 with
  | none => simp [hz]
  | some x => simp

/-- Block r now is the map of the entries l. -/
def putMap (enc : K → Array Value) (w : World) (r : Nat) (l : List (K × Value × Nat)) (clock : Nat) : World := { w with heap := w.heap.setIfInBounds r (.map (ents enc l) clock) }
theorem putMap_at {w : World} {r : Nat} (h : r < w.heap.size) (l : List (K × Value × Nat)) (clock : Nat) : MapAt enc (putMap enc w r l clock) r l clock := by
  unfold MapAt putMap; simp [h]
theorem putMap_other (w : World) (r : Nat) (l : List (K × Value × Nat)) (clock : Nat) {i : Nat} (hi : i ≠ r) : (putMap enc w r l clock).heap[i]? = w.heap[i]? := by
  unfold putMap; simp [Ne.symm hi]
theorem putMap_size (w : World) (r : Nat) (l : List (K × Value × Nat)) (clock : Nat) : (putMap enc w r l clock).heap.size = w.heap.size := by simp [putMap]
theorem putMap_below {w W : World} {B r : Nat} (h : Below B w W) (hr : B ≤ r) (l : List (K × Value × Nat)) (clock : Nat) : Below B w (putMap enc W r l clock) :=
  ⟨h.os, h.tape, h.output, by rw [putMap_size]; exact h.size, fun i hi => by rw [putMap_other _ _ _ _ (by omega)]; exact h.block i hi⟩
theorem VarAt.put {w : World} {b r : Nat} {T : TypeId} {cs : List Value} (h : VarAt w b T cs) (hb : b ≠ r) (l : List (K × Value × Nat)) (clock : Nat) : VarAt (putMap enc w r l clock) b T cs := by
  unfold VarAt; rw [putMap_other _ _ _ _ hb]; exact h

/-- The entries' stamps are apart, and older than the clock; so are the keys. -/
def Fresh (l : List (K × Value × Nat)) (clock : Nat) : Prop := (l.map (·.2.2)).Nodup ∧ (∀ x ∈ l, x.2.2 < clock) ∧ (l.map (·.1)).Nodup
theorem Fresh.nil (clock : Nat) : Fresh ([] : List (K × Value × Nat)) clock := by simp [Fresh]

/-- The value of a key, its stamp. -/
def valOf [DecidableEq K] (l : List (K × Value × Nat)) (k : K) : Option Value := (l.find? fun x => decide (k = x.1)).map (·.2.1)
def bornOf [DecidableEq K] (l : List (K × Value × Nat)) (k : K) : Option Nat := (l.find? fun x => decide (k = x.1)).map (·.2.2)
theorem findIn_val [DecidableEq K] (k : K) : ∀ (l : List (K × Value × Nat)) (i : Nat), (findIn l k i).map (·.2) = valOf l k
  | [], _ => rfl
  | x :: l, i => by
    unfold findIn valOf
    by_cases h : k = x.1
    · simp [h]
    · simp only [h, if_false, List.find?_cons, decide_false]
      exact findIn_val k l (i + 1)
theorem findIn_at [DecidableEq K] (k : K) : ∀ (l : List (K × Value × Nat)) (i j : Nat) (v : Value), findIn l k i = some (j, v) → ∃ m x, j = i + m ∧ l[m]? = some x ∧ x.1 = k ∧ x.2.1 = v ∧ bornOf l k = some x.2.2
  | [], _, _, _, h => by cases h
  | x :: l, i, j, v, h => by
    unfold findIn at h
    split at h
    · rename_i hk
      obtain ⟨rfl, rfl⟩ := by simpa using h
      exact ⟨0, x, rfl, rfl, hk.symm, rfl, by simp [bornOf, hk]⟩
    · rename_i hk
      obtain ⟨m, y, rfl, hy, h1, h2, h3⟩ := findIn_at k l (i + 1) j v h
      exact ⟨m + 1, y, by omega, by simpa using hy, h1, h2, by simp only [bornOf, List.find?_cons, hk, decide_false] at h3 ⊢; exact h3⟩
theorem findIn_none [DecidableEq K] (k : K) : ∀ (l : List (K × Value × Nat)) (i : Nat), findIn l k i = none → ∀ x ∈ l, x.1 ≠ k
  | [], _, _, _, h => by cases h
  | x :: l, i, h, y, hy => by
    unfold findIn at h
    split at h
    · cases h
    · rename_i hk
      rcases List.mem_cons.1 hy with rfl | hy
      · exact Ne.symm hk
      · exact findIn_none k l (i + 1) h y hy

/-- 'm[k] = ..' finds or makes k's entry: the entries then. -/
def touch [DecidableEq K] (l : List (K × Value × Nat)) (k : K) (z : Value) (clock : Nat) : List (K × Value × Nat) := if (valOf l k).isSome then l else l ++ [(k, z, clock)]
def clockOf [DecidableEq K] (l : List (K × Value × Nat)) (k : K) (clock : Nat) : Nat := if (valOf l k).isSome then clock else clock + 1
theorem run_mapEntry_made [DecidableEq K] (L : KeyLaw P t enc) {mt e : TypeId} (hm : P.underlying mt = some (.map t e)) {w : World} {r : Nat} {l : List (K × Value × Nat)} {clock : Nat} (h : MapAt enc w r l clock) (k : K) {z : Value} (hz : ∀ w, (zeroValue e).run P w = .ok z w) :
    (Instr.mapEntry mt (.map (some r)) (.agg (enc k))).run P w = .ok (.tuple #[(valOf l k).getD z, goInt (((bornOf l k).getD clock : Nat) : Int)]) (putMap enc w r (touch l k z clock) (clockOf l k clock)) := by
  have hg : (getObj r).run P w = .ok (.map (ents enc l) clock) w := MapKept.run_getObj_map h
  have hs : ∀ o, (setObj r o).run P w = .ok () { w with heap := w.heap.setIfInBounds r o } := fun o => MapKept.run_setObj_map o h
  have hf := run_findKey L k l w
  have he : (ents enc l).toList = l.map (ent enc) := by simp [ents]
  have hv := findIn_val k l 0
  unfold Instr.mapEntry
  simp only [Sem.run_bind, run_underlying hm, Result.andThen_ok, hg, L.chk, he, hf]
  cases hfi : findIn l k 0 with
  | none =>
    rw [hfi] at hv
    simp only [Option.map_none] at hv
    have hb : bornOf l k = none := by
      unfold bornOf; unfold valOf at hv
      cases hq : l.find? (fun x => decide (k = x.1)) with
      | none => rfl
      | some x => rw [hq] at hv; cases hv
    simp only [Sem.run_bind, hz, Result.andThen_ok, hs, Sem.run_pure, touch, clockOf, ← hv, hb]
    simp [putMap, ents, ent]
  | some x =>
    obtain ⟨j, v⟩ := x
    rw [hfi] at hv
    simp only [Option.map_some] at hv
    obtain ⟨m, y, hj, hy, h1, h2, h3⟩ := findIn_at k l 0 j v hfi
    obtain rfl : j = m := by omega
    have hey : (ents enc l)[j]? = some (ent enc y) := by simp [ents, hy]
    simp only [Sem.run_bind, hey, Option.map_some, Option.getD_some]
    have hk : (Instr.keyThatStays (ent enc y).key (.agg (enc k))).run P w = .ok (.agg (enc k)) w := by
      unfold Instr.keyThatStays
      have : (ent enc y).key = .agg (enc k) := by simp [ent, h1]
      rw [this, L.bits]
      rfl
    have hmod : (ents enc l).modify j (fun e => { e with key := .agg (enc k) }) = ents enc l := by
      apply Array.ext
      · simp
      · intro i h1' h2'
        rw [Array.getElem_modify]
        split
        · rename_i hij
          subst hij
          have : (ents enc l)[j] = ent enc y := by
            have := hey
            rw [Array.getElem?_eq_getElem (by simpa using h2')] at this
            exact Option.some.inj this
          rw [this]; simp [ent, h1]
        · rfl
    rw [hk]
    simp only [Result.andThen_ok, hmod, hs, Sem.run_pure, touch, clockOf, ← hv, h3, Option.isSome_some, if_true, Option.getD_some]
    rfl

def setOne [DecidableEq K] (k : K) (v : Value) (x : K × Value × Nat) : K × Value × Nat := if x.1 = k then (x.1, v, x.2.2) else x
def setVal [DecidableEq K] (l : List (K × Value × Nat)) (k : K) (v : Value) : List (K × Value × Nat) := l.map (setOne k v)

theorem bornOf_at [DecidableEq K] {l : List (K × Value × Nat)} {k : K} {b : Nat} (h : bornOf l k = some b) : ∃ (j : Nat) (x : K × Value × Nat), l[j]? = some x ∧ x.1 = k ∧ x.2.2 = b := by
  unfold bornOf at h
  cases hq : l.find? (fun x => decide (k = x.1)) with
  | none => rw [hq] at h; cases h
  | some x =>
    rw [hq] at h
    have hx := List.find?_some hq
    obtain ⟨j, hj⟩ := List.getElem?_of_mem (List.mem_of_find?_eq_some hq)
    exact ⟨j, x, hj, (of_decide_eq_true hx).symm, by simpa using h⟩
theorem nodup_at {α : Type} {l : List α} (h : l.Nodup) {i j : Nat} {x : α} (hi : l[i]? = some x) (hj : l[j]? = some x) : i = j := by
  exact (List.getElem?_inj (List.getElem?_eq_some_iff.1 hi).1 h).1 (hi.trans hj.symm)

/-- The second half of 'm[k] = v'. -/
theorem run_entryStore_made [DecidableEq K] {mt : TypeId} {w : World} {r : Nat} {l : List (K × Value × Nat)} {clock clock0 b : Nat} (h : MapAt enc w r l clock) (hF : Fresh l clock0) {k : K} (hb : bornOf l k = some b) (v : Value) :
    (Instr.entryStore mt (.map (some r)) (goInt (b : Int)) v).run P w = .ok () (putMap enc w r (setVal l k v) clock) := by
  have hg : (getObj r).run P w = .ok (.map (ents enc l) clock) w := MapKept.run_getObj_map h
  have hs : ∀ o, (setObj r o).run P w = .ok () { w with heap := w.heap.setIfInBounds r o } := fun o => MapKept.run_setObj_map o h
  obtain ⟨j, y, hy, hyk, hyb⟩ := bornOf_at hb
  have hjl : j < l.length := (List.getElem?_eq_some_iff.1 hy).1
  have hsz : (ents enc l).size = l.length := by simp [ents]
  have hat : ∀ i (hi : i < l.length), (ents enc l)[i]? = some (ent enc l[i]) := fun i hi => by simp [ents, List.getElem?_eq_getElem hi]
  have hyj : l[j] = y := by rw [List.getElem?_eq_getElem hjl] at hy; exact Option.some.inj hy
  have hidx : (ents enc l).findIdx? (fun e => (e.born : Int) == (b : Int)) = some j := by
    rw [Array.findIdx?_eq_some_iff_getElem]
    refine ⟨by rw [hsz]; exact hjl, ?_, fun i hij => ?_⟩
    · have h1 := hat j hjl
      rw [Array.getElem?_eq_getElem (by rw [hsz]; exact hjl)] at h1
      rw [Option.some.inj h1, hyj]; simp [ent, hyb]
    · have hil : i < l.length := by omega
      have h1 := hat i hil
      rw [Array.getElem?_eq_getElem (by rw [hsz]; exact hil)] at h1
      rw [Option.some.inj h1]
      simp only [ent, beq_iff_eq, Int.ofNat_inj]
      intro e
      have hne : i = j := nodup_at hF.1 (i := i) (j := j) (x := b) (by simp [List.getElem?_eq_getElem hil, ← e]) (by simp [List.getElem?_eq_getElem hjl, hyj, hyb])
      omega
  have ha : (asInt (.int .i64 (b : Int))).run P w = .ok (b : Int) w := rfl
  unfold Instr.entryStore
  simp only [Sem.run_bind, hg, Result.andThen_ok, goInt, ha, hidx, hs]
  have hmod : (ents enc l).modify j (fun e => { e with val := v }) = ents enc (setVal l k v) := by
    apply Array.ext
    · simp [ents, setVal]
    · intro i h1 h2
      have hil : i < l.length := by simpa [ents] using h1
      rw [Array.getElem_modify]
      have h3 := hat i hil
      rw [Array.getElem?_eq_getElem (by rw [hsz]; exact hil)] at h3
      have h4 : (ents enc (setVal l k v))[i] = ent enc (if l[i].1 = k then (l[i].1, v, l[i].2.2) else l[i]) := by simp [ents, setVal, setOne]
      rw [h4, Option.some.inj h3]
      split
      · rename_i hij
        subst hij
        rw [hyj, if_pos hyk]; rfl
      · rename_i hij
        rw [if_neg]
        intro e
        exact hij (nodup_at hF.2.2 (i := j) (j := i) (x := k) (by simp [List.getElem?_eq_getElem hjl, hyj, hyk]) (by simp [List.getElem?_eq_getElem hil, e]))
  rw [hmod]
  rfl

theorem bornOf_touch [DecidableEq K] (l : List (K × Value × Nat)) (k : K) (z : Value) (clock : Nat) : bornOf (touch l k z clock) k = some ((bornOf l k).getD clock) := by
  unfold touch valOf bornOf
  cases hq : l.find? (fun x => decide (k = x.1)) with
  | none => simp [List.find?_append, hq]
  | some x => simp [hq]
theorem Fresh.touch [DecidableEq K] {l : List (K × Value × Nat)} {clock : Nat} (h : Fresh l clock) (k : K) (z : Value) : Fresh (touch l k z clock) (clockOf l k clock) := by
  unfold Go.Proofs.Ytmdfilffoomckaa.touch clockOf
  cases hq : valOf l k with
  | some x => simpa using h
  | none =>
    have hk : ∀ x ∈ l, x.1 ≠ k := by
      intro x hx e
      unfold valOf at hq
      simp only [Option.map_eq_none_iff, List.find?_eq_none, decide_eq_true_eq] at hq
      exact hq x hx e.symm
    simp only [Option.isSome_none, Bool.false_eq_true, if_false]
    refine ⟨?_, ?_, ?_⟩
    · rw [List.map_append, List.nodup_append]
      refine ⟨h.1, by simp, ?_⟩
      intro a ha b hb
      simp at hb; subst hb
      obtain ⟨x, hx, rfl⟩ := List.mem_map.1 ha
      have := h.2.1 x hx; omega
    · intro x hx
      rcases List.mem_append.1 hx with hx | hx
      · have := h.2.1 x hx; omega
      · simp at hx; subst hx; simp
    · rw [List.map_append, List.nodup_append]
      refine ⟨h.2.2, by simp, ?_⟩
      intro a ha b hb
      simp at hb; subst hb
      obtain ⟨x, hx, rfl⟩ := List.mem_map.1 ha
      exact hk x hx
theorem Fresh.setVal [DecidableEq K] {l : List (K × Value × Nat)} {clock : Nat} (h : Fresh l clock) (k : K) (v : Value) : Fresh (setVal l k v) clock := by
  have e1 : (Go.Proofs.Ytmdfilffoomckaa.setVal l k v).map (·.2.2) = l.map (·.2.2) := by
    simp only [Go.Proofs.Ytmdfilffoomckaa.setVal, List.map_map]; congr 1; funext x; simp only [Function.comp, setOne]; split <;> rfl
  have e2 : (Go.Proofs.Ytmdfilffoomckaa.setVal l k v).map (·.1) = l.map (·.1) := by
    simp only [Go.Proofs.Ytmdfilffoomckaa.setVal, List.map_map]; congr 1; funext x; simp only [Function.comp, setOne]; split <;> rfl
  refine ⟨by rw [e1]; exact h.1, fun x hx => ?_, by rw [e2]; exact h.2.2⟩
  have : x.2.2 ∈ l.map (·.2.2) := by rw [← e1]; exact List.mem_map_of_mem hx
  obtain ⟨y, hy, he⟩ := List.mem_map.1 this
  have := h.2.1 y hy
  omega
end
end Go.Proofs.Ytmdfilffoomckaa
