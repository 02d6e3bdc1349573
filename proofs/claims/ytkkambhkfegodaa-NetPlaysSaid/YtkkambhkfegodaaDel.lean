/- slices.Delete of one packet out of a bag. Conditions: each law's own. -/
import Derived.Test.YtkkambhkfegodaaNet
import Derived.Shelf.SlicesE.Delete
namespace Go.Proofs.Ytkkambhkfegodaa
open Go.Shelf
def deleteL_ren : Go.Shelf.Ren := ⟨fun | 45 => 25 | n => n, fun | 22 => 56 | 23 => 22 | 3 => 3 | 4 => 4 | 0 => 0 | n => n, fun | n => n⟩
theorem deleteL : Go.Proofs.SlLaysE.n45 Try.prog deleteL_ren := {
  mixed := by kernel_rfl
  f45 := ⟨Try.f25.name, by decide, Try.func25.trans (congrArg some (by kernel_rfl))⟩
  t0 := Try.underlying0
  a0 := Try.isAgg0
  z0 := Try.sizeOf0
  v0 := Try.zeroValue0
  t3 := Try.underlying3
  a3 := Try.isAgg3
  z3 := Try.sizeOf3
  v3 := Try.zeroValue3
  t4 := Try.underlying4
  a4 := Try.isAgg4
  z4 := Try.sizeOf4
  v4 := Try.zeroValue4
  t22 := Try.underlying56
  a22 := Try.isAgg56
  z22 := Try.sizeOf56
  v22 := Try.zeroValue56
  a23 := Try.isAgg22
  z23 := Try.sizeOf22 }

open Go.ChangeShapes Go.WideShapes Go.ChangeAt Go.RowKit

/-- A value of one cell. -/
abbrev OneV := {v : Value // v.oneCell' = true}
instance oneVInhabited : Inhabited OneV := ⟨⟨.slice none 0 0, rfl⟩⟩
def encV (v : OneV) : Value := v.1
theorem ones : ∀ xs : List Value, (∀ u ∈ xs, u.oneCell' = true) → ∃ ds : List OneV, ds.map encV = xs
  | [], _ => ⟨[], rfl⟩
  | x :: xs, h => by
    obtain ⟨ds, hd⟩ := ones xs (fun u hu => h u (List.mem_cons_of_mem _ hu))
    exact ⟨⟨x, h x (List.mem_cons_self ..)⟩ :: ds, by simp [hd, encV]⟩
theorem Tail.holds {w : World} {base g off n cap : Nat} {xs : List Value} (h : Tail w base (.slice (some ⟨g, off, none⟩) n cap) n xs) {ds : List OneV} (hd : ds.map encV = xs) : Go.Sort.Holds encV w g off ds.toArray := by
  obtain ⟨ao, cap', hv, h1, h2, h3, h4, h5⟩ := h
  cases hv
  intro j hj
  have hj' : j < ds.length := by simpa using hj
  have hl : ds.length = n := by rw [← h1, ← hd]; simp
  obtain ⟨g', off', ha, hg, hlt, hc, hx⟩ := h5 (by omega)
  cases ha
  refine ⟨hx j _ ?_, (hc j (by omega)).2⟩
  rw [← hd, getElem!_pos ds.toArray j hj]
  simp [hj']
/-- A tail whose cells are written anew. -/
theorem Tail.put_row {w : World} {base g off n cap q : Nat} {xs : List Value} (h : Tail w base (.slice (some ⟨g, off, none⟩) n cap) n xs) (hcap : 0 < cap) {ds es : List OneV} (hd : ds.map encV = xs) (hl : es.length = ds.length) (m : Nat) (hm : m ≤ n) :
    Tail (Go.Sort.putRow encV (Go.Sort.ahead w q) g off es.toArray) base (.slice (some ⟨g, off, none⟩) m cap) m ((es.map encV).take m) ∧ Frame (fun j => some j ≠ some g) w (Go.Sort.putRow encV (Go.Sort.ahead w q) g off es.toArray) := by
  have hH := h.holds hd
  obtain ⟨ao, cap', hv, h1, h2, h3, h4, h5⟩ := h
  cases hv
  have hln : ds.length = n := by rw [← h1, ← hd]; simp
  obtain ⟨g', off', ha, hg, hlt, hc, hx⟩ := h5 hcap
  cases ha
  have hH2 := Go.Sort.holds_putRow encV (Go.Sort.ahead w q) g off ds.toArray es.toArray hH (by simp [hl])
  refine ⟨⟨_, cap, rfl, by simp; omega, by omega, h3, fun h => (by cases h), fun _ => ⟨g, off, rfl, hg, by simpa using hlt, fun j hj => ⟨?_, ?_⟩, fun j u hu => ?_⟩⟩, ⟨rfl, rfl, rfl, by simp, fun j hj hne => ?_⟩⟩
  · rcases Nat.lt_or_ge j n with hjn | hjn
    · rw [(hH2 j (by simp; omega)).1]; rfl
    · rw [Go.Sort.cell?_putRow_other _ _ _ _ _ _ (Or.inr (Or.inr (by simp; omega)))]
      exact (hc j hj).1
  · rw [Go.Sort.frozen?_putRow]; exact (hc j hj).2
  · rw [List.getElem?_take] at hu
    split at hu
    · rw [List.getElem?_map] at hu
      have hje : j < es.length := by
        rcases Nat.lt_or_ge j es.length with h | h
        · exact h
        · rw [List.getElem?_eq_none h] at hu; cases hu
      rw [(hH2 j (by simpa using hje)).1, getElem!_pos es.toArray j (by simpa using hje)]
      rw [List.getElem?_eq_getElem hje] at hu
      simpa using hu
    · cases hu
  · have hne' : j ≠ g := fun e => hne (by rw [e])
    show (Go.Sort.mapBlock _ _ _).heap[j]? = _
    simp only [Go.Sort.mapBlock, Go.Sort.ahead]
    rw [Array.getElem?_modify, if_neg (Ne.symm hne')]
theorem zeroValue22 (w : World) : (zeroValue 22).run Try.prog w = .ok (.slice none 0 0) w := by kernel_rfl
theorem take_drop_erase {α : Type} (l : List α) (i : Nat) : l.take i ++ l.drop (i + 1) = l.eraseIdx i := (List.eraseIdx_eq_take_drop_succ l i).symm
/-- 'slices.Delete(s, i, i+1)'. -/
theorem c25 {w : World} {base n cap : Nat} {ao : Option Addr} {xs : List Value} (h : Tail w base (.slice ao n cap) n xs) (h1 : ∀ u ∈ xs, u.oneCell' = true) (i : Nat) (hi : i < n) :
    Calls Try.prog 25 #[.slice ao n cap, .int .i64 i, .int .i64 (i + 1)] w fun e w' => e = .returned (.slice ao (n - 1) cap) ∧ Tail w' base (.slice ao (n - 1) cap) (n - 1) (xs.eraseIdx i) ∧ Frame (fun j => some j ≠ (Value.slice ao n cap).ownBlock) w w' := by
  obtain ⟨ao', cap', hv, hl, h2, h3, h4, h5⟩ := id h
  cases hv
  obtain ⟨g, off, rfl, hg, hlt, hc, hx⟩ := h5 (by omega)
  obtain ⟨ds, hd⟩ := ones xs h1
  have hln : ds.length = n := by rw [← hl, ← hd]; simp
  obtain ⟨i0, hi0, _, hz1, _⟩ := info_parts info22
  have hcon := AnyE.slices_Delete deleteL encV (fun x => x.2) ⟨.slice none 0 0, rfl⟩ zeroValue22 i0 hi0 hz1 g off cap i (i + 1) ds.toArray w (h.holds hd) (by simp; omega) (by unfold maxLen at h3; omega) (by omega) (by simp; omega)
  change Calls Try.prog 25 _ _ _ at hcon
  simp only [List.size_toArray, hln] at hcon
  refine hcon.mono ?_
  rintro e w' ⟨rfl, q, rfl⟩
  have hes : (ds.take i ++ ds.drop (i + 1) ++ List.replicate (i + 1 - i) (⟨.slice none 0 0, rfl⟩ : OneV)).length = ds.length := by simp; omega
  obtain ⟨q1, q2⟩ := h.put_row (q := q) (by omega) hd hes (n - 1) (by omega)
  refine ⟨by rw [show i + 1 - i = 1 by omega], ?_, q2⟩
  have he : ((ds.take i ++ ds.drop (i + 1) ++ List.replicate (i + 1 - i) (⟨.slice none 0 0, rfl⟩ : OneV)).map encV).take (n - 1) = xs.eraseIdx i := by
    rw [take_drop_erase, List.map_append, List.take_append_of_le_length (by rw [List.length_map, List.length_eraseIdx]; split <;> omega), List.take_of_length_le (by rw [List.length_map, List.length_eraseIdx]; split <;> omega)]
    rw [← hd]
    simp [List.eraseIdx_eq_take_drop_succ]
  rw [he] at q1
  exact q1
end Go.Proofs.Ytkkambhkfegodaa
