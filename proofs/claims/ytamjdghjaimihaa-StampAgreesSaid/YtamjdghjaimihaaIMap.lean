/- Made maps of numbers by numbers: lookup, a new entry, a range over them; what one's stamp is. Conditions: each law's own. -/
import Derived.Test.YtamjdghjaimihaaRows
import Derived.Test.YtamjdghjaimihaaLists
import Derived.Test.YtamjdghjaimihaaOne
import Derived.MapKept
import Derived.Laws.IdiomRangeMap
import Derived.Maps.RangeRun
import Derived.Sort.Grow
namespace Go.Proofs.Ytamjdghjaimihaa
open Go.ChangeShapes Go.WideShapes Go.ChangeAt Go.RowKit
open Go.ChangeMaps (setBlock)

abbrev IEnts := List (Int × Int × Nat)
def entI (x : Int × Int × Nat) : MapEntry := { key := .int .i64 x.1, val := .int .u64 x.2.1, born := x.2.2 }
def entsI (l : IEnts) : Array MapEntry := (l.map entI).toArray
def IMap (w : World) (r : Nat) (l : IEnts) (clock : Nat) : Prop := w.heap[r]? = some (.map (entsI l) clock)
structure IFresh (l : IEnts) (clock : Nat) : Prop where
  borns : (l.map (·.2.2)).Nodup
  below : ∀ x ∈ l, x.2.2 < clock
  keys : (l.map (·.1)).Nodup
def valI (l : IEnts) (k : Int) : Option Int := (l.find? fun x => decide (x.1 = k)).map (·.2.1)
theorem IMap.lt {w : World} {r clock : Nat} {l : IEnts} (h : IMap w r l clock) : r < w.heap.size := (Array.getElem?_eq_some_iff.1 h).1
theorem IMap.keep {w w' : World} {r clock B : Nat} {l : IEnts} (h : IMap w r l clock) (hb : Below B w w') (hr : r < B) : IMap w' r l clock := by unfold IMap; rw [hb.block r hr]; exact h
theorem IFresh.nil : IFresh [] 0 := ⟨.nil, by simp, .nil⟩
theorem IFresh.push {l : IEnts} {clock : Nat} (h : IFresh l clock) {k v : Int} (hk : ∀ x ∈ l, x.1 ≠ k) : IFresh (l ++ [(k, v, clock)]) (clock + 1) := by
  refine ⟨?_, fun x hx => ?_, ?_⟩
  · rw [List.map_append, List.nodup_append]
    refine ⟨h.borns, by simp, fun a ha b hb => ?_⟩
    obtain ⟨x, hx, rfl⟩ := List.mem_map.1 ha
    simp at hb; subst hb
    have := h.below x hx; omega
  · rcases List.mem_append.1 hx with h1 | h1
    · have := h.below x h1; omega
    · simp at h1; subst h1; simp
  · rw [List.map_append, List.nodup_append]
    refine ⟨h.keys, by simp, fun a ha b hb => ?_⟩
    obtain ⟨x, hx, rfl⟩ := List.mem_map.1 ha
    simp at hb; subst hb
    exact hk x hx
theorem valI_none {l : IEnts} {k : Int} (h : valI l k = none) : ∀ x ∈ l, x.1 ≠ k := fun x hx e => by
  unfold valI at h
  simp only [Option.map_eq_none_iff, List.find?_eq_none, decide_eq_true_eq] at h
  exact h x hx e
theorem valI_append (l : IEnts) (k v : Int) (c : Nat) (h : ∀ x ∈ l, x.1 ≠ k) (k' : Int) : valI (l ++ [(k, v, c)]) k' = if k' = k then some v else valI l k' := by
  unfold valI
  rw [List.find?_append]
  by_cases e : k' = k
  · subst e
    rw [if_pos rfl, List.find?_eq_none.2 (fun x hx => by simpa using h x hx)]
    simp
  · rw [if_neg e]
    have : ([(k, v, c)] : IEnts).find? (fun x => decide (x.1 = k')) = none := by simp [Ne.symm e]
    rw [this, Option.or_none]

/-! ### One step each -/
theorem und82 : Try.prog.underlying 82 = some (.map 3 26) := by kernel_rfl
theorem und3 : Try.prog.underlying 3 = some (.int .i64) := by kernel_rfl
def findI : IEnts → Int → Nat → Option (Nat × Value)
  | [], _, _ => none
  | x :: l, k, i => if k = x.1 then some (i, .int .u64 x.2.1) else findI l k (i + 1)
theorem findNow_int (k : Int) : ∀ (l : IEnts) (i : Nat), Instr.findNow (.int .i64) (.int .i64 k) (l.map entI) i = some (findI l k i)
  | [], _ => rfl
  | x :: l, i => by
    simp only [List.map_cons, Instr.findNow, findI, entI, Instr.sameNow, if_true]
    by_cases h : k = x.1
    · simp [h]
    · have : (k == x.1) = false := by simpa using h
      rw [this, if_neg h]
      exact findNow_int k l (i + 1)
theorem findI_val : ∀ (l : IEnts) (k : Int) (i : Nat), (findI l k i).map (·.2) = (valI l k).map (Value.int .u64)
  | [], _, _ => rfl
  | x :: l, k, i => by
    unfold findI valI
    rw [List.find?_cons]
    by_cases h : k = x.1
    · simp [h]
    · have h2 : ¬ x.1 = k := fun e => h e.symm
      simp only [h, h2, if_false, decide_false]
      have := findI_val l k (i + 1)
      unfold valI at this
      exact this
theorem run_findKey_int (k : Int) (l : IEnts) (w : World) : (Instr.findKey 3 (.int .i64 k) (entsI l).toList).run Try.prog w = .ok (findI l k 0) w := by
  unfold Instr.findKey
  simp only [Sem.run_bind, run_underlying und3, Result.andThen_ok]
  rw [show (entsI l).toList = l.map entI by simp [entsI], findNow_int]
  rfl
theorem run_checkKey_int (e : Bool) (k : Int) (w : World) : (Instr.checkKey e 10000 3 (.int .i64 k)).run Try.prog w = .ok () w := by
  exact MapKept.run_checkKey und3 (by first | trivial | exact ⟨_, rfl⟩ | simp [MapKept.IsKey]) e 9999
theorem zero26 (w : World) : (zeroValue 26).run Try.prog w = .ok (.int .u64 0) w := by kernel_rfl
theorem run_lookup_int {w : World} {r clock : Nat} {l : IEnts} (h : IMap w r l clock) (k : Int) : (Instr.lookup 82 (.map (some r)) (.int .i64 k) false).run Try.prog w = .ok (.int .u64 ((valI l k).getD 0)) w := by
  unfold Instr.lookup
  have hg : (getObj r).run Try.prog w = .ok (.map (entsI l) clock) w := MapKept.run_getObj_map h
  simp only [Sem.run_bind, run_underlying und82, Result.andThen_ok, hg, Sem.run_pure, run_checkKey_int, run_findKey_int]
  have hv := findI_val l k 0
  cases hf : findI l k 0 with
  | none =>
    rw [hf] at hv
    have : valI l k = none := by simpa using hv.symm
    simp [this]
  | some x =>
    rw [hf] at hv
    obtain ⟨i, v⟩ := x
    obtain ⟨y, hy, hz⟩ : ∃ y, valI l k = some y ∧ Value.int .u64 y = v := by simpa using hv.symm
    simp [hy, hz]
theorem run_update_int {w : World} {r clock : Nat} {l : IEnts} (h : IMap w r l clock) (k v : Int) (hk : valI l k = none) :
    (Instr.mapUpdate 82 (.map (some r)) (.int .i64 k) (.int .u64 v)).run Try.prog w = .ok () (setBlock w r (.map (entsI (l ++ [(k, v, clock)])) (clock + 1))) := by
  unfold Instr.mapUpdate
  have hg : (getObj r).run Try.prog w = .ok (.map (entsI l) clock) w := MapKept.run_getObj_map h
  have hf : findI l k 0 = none := by
    have hv := findI_val l k 0
    rw [hk] at hv
    simpa using hv
  simp only [Sem.run_bind, run_underlying und82, Result.andThen_ok, hg, run_checkKey_int, run_findKey_int, hf]
  rw [MapKept.run_setObj_map _ h]
  unfold setBlock
  simp [entsI, entI]
theorem IMap.set {w : World} {r clock clock' : Nat} {l l' : IEnts} (h : IMap w r l clock) : IMap (setBlock w r (.map (entsI l') clock')) r l' clock' := by
  unfold IMap setBlock; simp [h.lt]

/-! ### What is left of a range -/
def leftI (l : IEnts) (seen : Array Nat) : IEnts := l.filter fun y => !seen.contains y.2.2
theorem leftI_of (l : IEnts) (seen : Array Nat) : leftOf (entsI l) seen = entsI (leftI l seen) := by
  unfold leftOf entsI leftI
  apply Array.toList_inj.1
  simp only [Array.toList_filter, List.filter_map]
  congr 1
theorem leftI_none {l : IEnts} {seen : Array Nat} (h : (leftOf (entsI l) seen).size = 0) : leftI l seen = [] := by
  rw [leftI_of] at h
  simpa [entsI] using h
theorem leftI_some {l : IEnts} {seen : Array Nat} {e : MapEntry} (h : e ∈ (leftOf (entsI l) seen).toList) : ∃ y ∈ leftI l seen, e = entI y := by
  rw [leftI_of] at h
  simp only [entsI, List.mem_map] at h
  obtain ⟨y, hy, rfl⟩ := h
  exact ⟨y, hy, rfl⟩
theorem leftI_push : ∀ (l : IEnts) (seen : Array Nat) (y : Int × Int × Nat), (l.map (·.2.2)).Nodup → y ∈ leftI l seen → (leftI l seen).Perm (y :: leftI l (seen.push y.2.2))
  | [], _, _, _, h => by cases h
  | x :: l, seen, y, hn, h => by
    rw [List.map_cons, List.nodup_cons] at hn
    have hc : ∀ b, (seen.push y.2.2).contains b = (seen.contains b || b == y.2.2) := fun b => Go.contains_push seen y.2.2 b
    by_cases hx : seen.contains x.2.2 = true
    · have e1 : leftI (x :: l) seen = leftI l seen := by unfold leftI; rw [List.filter_cons, hx]; rfl
      have e2 : leftI (x :: l) (seen.push y.2.2) = leftI l (seen.push y.2.2) := by unfold leftI; rw [List.filter_cons, hc, hx]; rfl
      rw [e1] at h ⊢; rw [e2]
      exact leftI_push l seen y hn.2 h
    · have hx' : seen.contains x.2.2 = false := by simpa using hx
      have e1 : leftI (x :: l) seen = x :: leftI l seen := by unfold leftI; rw [List.filter_cons, hx']; rfl
      rw [e1] at h ⊢
      by_cases hxy : x.2.2 = y.2.2
      · have hyx : y = x := by
          rcases List.mem_cons.1 h with h | h
          · exact h
          · have : y ∈ l := (List.mem_filter.1 h).1
            exact absurd (hxy ▸ List.mem_map_of_mem this) hn.1
        subst hyx
        have e2 : leftI (y :: l) (seen.push y.2.2) = leftI l (seen.push y.2.2) := by unfold leftI; rw [List.filter_cons, hc]; simp
        rw [e2]
        refine List.Perm.cons _ ?_
        have : leftI l (seen.push y.2.2) = leftI l seen := by
          unfold leftI
          refine List.filter_congr fun z hz => ?_
          have hz2 : z.2.2 ≠ y.2.2 := fun e => hn.1 (e ▸ List.mem_map_of_mem hz)
          rw [hc]; simp [hz2]
        rw [this]
      · have e2 : leftI (x :: l) (seen.push y.2.2) = x :: leftI l (seen.push y.2.2) := by unfold leftI; rw [List.filter_cons, hc, hx']; simp [hxy]
        rw [e2]
        have hy : y ∈ leftI l seen := by
          rcases List.mem_cons.1 h with h | h
          · exact absurd (by rw [h]) hxy
          · exact h
        exact ((leftI_push l seen y hn.2 hy).cons x).trans (List.Perm.swap y x _)
/-- The most of a number and of those of a map. -/
def mostOf (own : Int) (l : IEnts) : Int := l.foldl (fun s x => max s x.2.1) own
theorem mostOf_perm {own : Int} {l l' : IEnts} (h : l.Perm l') : mostOf own l = mostOf own l' := by
  unfold mostOf
  exact h.foldl_eq' (fun x _ y _ z => by omega) _
theorem mostOf_append (own : Int) (l : IEnts) (x : Int × Int × Nat) : mostOf own (l ++ [x]) = max (mostOf own l) x.2.1 := by unfold mostOf; rw [List.foldl_append]; rfl
theorem setBlock_last (w : World) (n : Nat) (o o' : Obj) : setBlock ((w.drewN n).alloc o) w.heap.size o' = (w.drewN n).alloc o' := by
  have hp : ∀ (h : Array Obj) (x y : Obj), (h.push x).setIfInBounds h.size y = h.push y := by
    intro h x y
    apply Array.toList_inj.1
    simp
  show ({ (w.drewN n).alloc o with heap := (w.heap.push o).setIfInBounds w.heap.size o' } : World) = _
  rw [hp]
  rfl
theorem drew_alloc_drewN (w : World) (n : Nat) (o : Obj) : ((w.drewN n).alloc o).drew = (w.drewN (n + 1)).alloc o := rfl
end Go.Proofs.Ytamjdghjaimihaa
