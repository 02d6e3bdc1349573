/- Between a row that the call has gathered and the words of the kit's sort. Conditions: each law's own. -/
import Derived.Test.YtmdfilffoomckaaLists
import Derived.Shelf.SlSortCmp.WholeK
namespace Go.Proofs.Ytmdfilffoomckaa
open Go.ChangeShapes Go.WideShapes Go.ChangeAt Go.RowKit

section
variable {α : Type} [Inhabited α] {enc : α → List Value} {k : Nat}
theorem holds_owned (hk : ∀ x, (enc x).length = k) {w : World} {base e n g cap : Nat} {xs : List α} (h : w.ownsRow base e k (.slice (some ⟨g, 0, none⟩) n cap) n (xs.flatMap enc)) : Go.Sort.HoldsK enc k w g 0 xs.toArray ∧ base ≤ g ∧ g < w.heap.size := by
  obtain ⟨h1, ⟨h2, _⟩ | ⟨g', cap', cur, he, hb, hg, hnc, hcm, hcs, ht⟩⟩ := h
  · cases h2
  · cases he
    refine ⟨fun j hj => ?_, hb, (Array.getElem?_eq_some_iff.1 hg).1⟩
    rw [Go.Sort.size_flatK] at hj
    rw [Go.Sort.get_flatK _ _ _ _ hj]
    have hk0 : 0 < k := by
      rcases Nat.eq_zero_or_pos k with h0 | h0
      · subst h0; omega
      · exact h0
    have hi : j / k < xs.length := by
      rw [Nat.div_lt_iff_lt_mul hk0]; simpa using hj
    have hjk : j % k < k := Nat.mod_lt _ hk0
    have hx : xs[j / k]? = some xs[j / k] := by rw [List.getElem?_eq_getElem hi]
    have hu : (enc xs[j / k])[j % k]? = some ((enc xs[j / k])[j % k]'(by rw [hk]; exact hjk)) := by rw [List.getElem?_eq_getElem]
    have hf := flatMap_at hk xs _ _ _ _ hx hu
    have hjj : j / k * k + j % k = j := by rw [Nat.mul_comm]; exact Nat.div_add_mod j k
    rw [hjj] at hf
    constructor
    · rw [Nat.zero_add, cell_of_row w g j cur e (0, 0) hg]
      rw [← ht, List.getElem?_take] at hf
      split at hf
      · rw [Array.getElem?_toList] at hf
        rw [hf]
        simp [getElem!_pos, hi, hk, hjk]
      · cases hf
    · simp [World.frozen?, hg]
theorem sorted_below {w : World} {g n : Nat} {d : Array α} {os : Array Obj} {b : Nat} (hb : b ≤ g) (hw : b ≤ w.heap.size) : Below b w (Go.Proofs.sortWorldK enc k w g 0 n d os) := by
  refine ⟨rfl, rfl, rfl, ?_, fun j hj => ?_⟩
  · simp [Go.Proofs.sortWorldK, Go.Sort.grow, Go.Sort.putRowK, Go.Sort.putRow, Go.Sort.mapBlock, Go.Sort.ahead]
  · simp only [Go.Proofs.sortWorldK, Go.Sort.grow, Go.Sort.putRowK, Go.Sort.putRow, Go.Sort.mapBlock, Go.Sort.ahead]
    rw [Array.getElem?_append_left (by simp; omega), Array.getElem?_modify, if_neg (by omega)]
theorem sorted_row (hk : ∀ x, (enc x).length = k) {w : World} {g n cap : Nat} {d d' : Array α} {os : Array Obj} (hH : Go.Sort.HoldsK enc k w g 0 d) (hg : g < w.heap.size) (hs : d'.size = d.size) (hc : d.size ≤ cap) (hm : cap ≤ maxLen) :
    RowOf enc k (Go.Proofs.sortWorldK enc k w g 0 n d' os) (.slice (some ⟨g, 0, none⟩) d.size cap) d'.toList := by
  have h1 : Go.Sort.HoldsK enc k (Go.Proofs.sortWorldK enc k w g 0 n d' os) g 0 d' := by
    refine Go.Sort.holdsK_grow enc k _ os g 0 d' ?_ (Go.Sort.holdsK_putRowK enc k _ g 0 d d' hH hs)
    simp [Go.Sort.putRowK, Go.Sort.putRow, Go.Sort.mapBlock, Go.Sort.ahead, hg]
  refine ⟨_, cap, by rw [Array.length_toList, hs], by rw [Array.length_toList, hs]; exact hc, hm, fun _ => ⟨g, 0, rfl, ?_, fun i j x u hx hu => ?_⟩⟩
  · simp [Go.Proofs.sortWorldK, Go.Sort.grow, Go.Sort.putRowK, Go.Sort.putRow, Go.Sort.mapBlock, Go.Sort.ahead]; omega
  · have hi : i < d'.size := by have := (List.getElem?_eq_some_iff.1 hx).1; simpa using this
    have hj : j < k := by rw [← hk x]; exact (List.getElem?_eq_some_iff.1 hu).1
    rw [(h1.cell hi hj).1]
    have hxe : d'[i]! = x := by
      rw [Array.getElem?_toList, Array.getElem?_eq_getElem hi] at hx
      rw [getElem!_pos d' i hi]; exact Option.some.inj hx
    rw [hxe]
    rw [getElem!_pos (enc x) j (by rw [hk]; exact hj)]
    rw [List.getElem?_eq_getElem (by rw [hk]; exact hj)] at hu
    exact hu
/-- Sorted by a total comparison: the list rises. -/
theorem sorted_pairs {lt : α → α → Bool} {d : Array α} (h : Go.Sort.SortedIn lt 0 d.size d) : d.toList.Pairwise fun x y => lt y x = false := by
  rw [List.pairwise_iff_getElem]
  intro i j hi hj hij
  have := h i j (Nat.zero_le _) hij (by simpa using hj)
  rw [getElem!_pos d i (by simpa using hi), getElem!_pos d j (by simpa using hj)] at this
  simpa using this
end
end Go.Proofs.Ytmdfilffoomckaa
