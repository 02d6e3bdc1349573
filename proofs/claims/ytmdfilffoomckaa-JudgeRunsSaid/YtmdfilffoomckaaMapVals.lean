/- What a map holds behind an update. Conditions: each law's own. -/
import Derived.Test.YtmdfilffoomckaaMaps2
namespace Go.Proofs.Ytmdfilffoomckaa

section
variable {K : Type} [DecidableEq K]
theorem valOf_cons (x : K × Value × Nat) (l : List (K × Value × Nat)) (k : K) : valOf (x :: l) k = if k = x.1 then some x.2.1 else valOf l k := by
  unfold valOf
  rw [List.find?_cons]
  by_cases h : k = x.1
  · simp [h]
  · simp [h]
theorem valOf_setVal (k : K) (v : Value) (k' : K) : ∀ l : List (K × Value × Nat), valOf (setVal l k v) k' = if k' = k then (valOf l k').map (fun _ => v) else valOf l k'
  | [] => by simp [setVal, valOf]
  | x :: l => by
    have ih := valOf_setVal k v k' l
    have e : setVal (x :: l) k v = setOne k v x :: setVal l k v := rfl
    rw [e, valOf_cons, valOf_cons, ih]
    by_cases h1 : x.1 = k
    · have e1 : setOne k v x = (x.1, v, x.2.2) := by unfold setOne; rw [if_pos h1]
      rw [e1]
      by_cases h2 : k' = k
      · subst h2; simp [h1]
      · have : ¬ (k' = x.1) := by rw [h1]; exact h2
        simp [this, h2]
    · have e1 : setOne k v x = x := by unfold setOne; rw [if_neg h1]
      rw [e1]
      by_cases h2 : k' = k
      · subst h2
        have : ¬ (k' = x.1) := fun h => h1 h.symm
        simp [this]
      · simp [h2]
theorem valOf_touch (l : List (K × Value × Nat)) (k : K) (z : Value) (c : Nat) (k' : K) : valOf (touch l k z c) k' = if k' = k then some ((valOf l k).getD z) else valOf l k' := by
  unfold touch
  cases hv : valOf l k with
  | some u =>
    simp only [Option.isSome_some, if_true]
    by_cases h : k' = k
    · subst h; simp [hv]
    · simp [h]
  | none =>
    simp only [Option.isSome_none, Bool.false_eq_true, if_false]
    have e : valOf (l ++ [(k, z, c)]) k' = (valOf l k').or (if k' = k then some z else none) := by
      unfold valOf
      rw [List.find?_append]
      cases h : l.find? (fun x => decide (k' = x.1)) with
      | some y => simp
      | none =>
        by_cases h2 : k' = k
        · simp [h2]
        · simp [h2]
    rw [e]
    by_cases h : k' = k
    · subst h; simp [hv]
    · simp [h]
theorem valOf_put (l : List (K × Value × Nat)) (k : K) (v : Value) (c : Nat) (k' : K) : valOf (setVal (touch l k v c) k v) k' = if k' = k then some v else valOf l k' := by
  rw [valOf_setVal, valOf_touch]
  by_cases h : k' = k
  · simp [h]
  · simp [h]
end
section
variable {K : Type} {enc : K → Array Value}
open Go.RowKit in
theorem owns_put {w : World} {base : Nat} {v : Value} {n : Nat} {xs : List Value} {e : TypeId} {size : Nat} (h : w.ownsRow base e size v n xs) {r : Nat} (hr : r < base) (l : List (K × Value × Nat)) (clock : Nat) : (putMap enc w r l clock).ownsRow base e size v n xs := by
  obtain ⟨h1, h2⟩ := h
  refine ⟨h1, ?_⟩
  rcases h2 with h2 | ⟨g, cap, cur, a, b, c, d⟩
  · exact .inl h2
  · exact .inr ⟨g, cap, cur, a, b, by rw [putMap_other w r l clock (by omega)]; exact c, d⟩
theorem MapAt.grown {w w' : World} {row : Option Nat} {r : Nat} {l : List (K × Value × Nat)} {clock : Nat} (h : MapAt enc w r l clock) (hg : w.grownBy w' row) (hr : some r ≠ row) : MapAt enc w' r l clock := by
  unfold MapAt; rw [hg.block r h.lt hr]; exact h
end
end Go.Proofs.Ytmdfilffoomckaa
