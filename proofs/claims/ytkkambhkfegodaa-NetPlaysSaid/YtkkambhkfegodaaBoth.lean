/- The network beside its reference: what holds of both, and plain laws of bags. Conditions: each law's own. -/
import Derived.Test.YtkkambhkfegodaaRefLinks
namespace Go.Proofs.Ytkkambhkfegodaa
open Go.ChangeShapes Go.WideShapes Go.ChangeAt Go.RowKit

def ZB (w0 : World) (y : Nat) (lv : Value) (j : Nat) : Prop := j < w0.heap.size ∨ RefOwn y lv j
def bagOf (k : Key) (L : List Pkt) : List (List Int) := (onLink k L).map (·.2.2)
structure Both (w0 w : World) (x : Nat) (s : NS) (y : Nat) (lv : Value) (B : Key → List (List Int)) (L : List Pkt) (N : Nat) : Prop where
  net : NetAt w x s B (ZB w0 y lv) N
  ref : RefAt w0 w y lv L
  same : ∀ k, B k = bagOf k L
section
variable {w0 w : World} {x y : Nat} {s : NS} {lv : Value} {B : Key → List (List Int)} {L : List Pkt} {N : Nat}
theorem Both.zlt (h : Both w0 w x s y lv B L N) : ∀ j, ZB w0 y lv j → j < w.heap.size := fun j hj => hj.elim (fun h1 => Nat.lt_of_lt_of_le h1 h.ref.old.size) (fun h1 => (h.ref.lt j h1).2)
theorem Both.ref_kept {w2 : World} {s2 : NS} (h : Both w0 w x s y lv B L N) (hs : Step w s w2 s2) : RefAt w0 w2 y lv L :=
  h.ref.keep hs.frame (fun j hj ho => (h.net.lt j ho).2 (.inr hj)) (h.ref.old.trans (hs.below (fun j hj => Nat.not_lt.1 (fun h1 => (h.net.lt j hj).2 (.inl h1))) h.ref.old.size))
theorem NetAt.ref_kept {w2 : World} {lv2 : Value} (h : NetAt w x s B (ZB w0 y lv) N) (hs : RefStep w y lv w2 lv2) : NetAt w2 x s B (ZB w0 y lv2) N :=
  h.keep hs.frame (fun j hj hz => ⟨fun ho => hz (.inr ho), fun h2 => h2.elim (fun h3 => hz (.inl h3)) (fun h3 => h3.elim (fun h4 => hz (.inr (.inl h4))) (fun h4 => (hs.own j h4).elim (fun h5 => hz (.inr (.inr h5))) (fun h5 => by omega)))⟩)
theorem Both.below {w2 : World} (h : Both w0 w x s y lv B L N) (hb : Below w.heap.size w w2) : Both w0 w2 x s y lv B L N := ⟨h.net.below hb, h.ref.below hb, h.same⟩
/-! Bags. -/
theorem bagOf_len (k : Key) (L : List Pkt) : (bagOf k L).length = cnt k L := by unfold bagOf cnt; rw [List.length_map]
theorem onLink_append (k : Key) (A C : List Pkt) : onLink k (A ++ C) = onLink k A ++ onLink k C := List.filter_append ..
theorem onLink_cons (k : Key) (p : Pkt) (L : List Pkt) : onLink k (p :: L) = if p.1 = k then p :: onLink k L else onLink k L := by
  unfold onLink; rw [List.filter_cons]; by_cases h : p.1 = k <;> simp [h]
theorem bagOf_push (k : Key) (L : List Pkt) (p : Pkt) : bagOf k (L ++ [p]) = if p.1 = k then bagOf k L ++ [p.2.2] else bagOf k L := by
  unfold bagOf; rw [onLink_push]; split <;> simp
theorem split_at {L : List Pkt} {i : Nat} {p : Pkt} (hi : L[i]? = some p) : L = L.take i ++ p :: L.drop (i + 1) := by
  have hlt := (List.getElem?_eq_some_iff.1 hi).1
  have hp := (List.getElem?_eq_some_iff.1 hi).2
  conv => lhs; rw [← List.take_append_drop i L]
  rw [List.drop_eq_getElem_cons hlt, hp]
theorem onLink_erase {k : Key} {i : Nat} {p : Pkt} (hi : L[i]? = some p) (hk : p.1 = k) : onLink k (L.eraseIdx i) = (onLink k L).eraseIdx (cnt k (L.take i)) := by
  have e1 : onLink k L = onLink k (L.take i) ++ p :: onLink k (L.drop (i + 1)) := by
    conv => lhs; rw [split_at hi]
    rw [onLink_append, onLink_cons, if_pos hk]
  rw [e1, List.eraseIdx_eq_take_drop_succ, onLink_append, List.eraseIdx_eq_take_drop_succ]
  unfold cnt
  simp
theorem onLink_erase_other {k : Key} {i : Nat} {p : Pkt} (hi : L[i]? = some p) (hk : p.1 ≠ k) : onLink k (L.eraseIdx i) = onLink k L := by
  conv => rhs; rw [split_at hi]
  rw [List.eraseIdx_eq_take_drop_succ, onLink_append, onLink_append, onLink_cons, if_neg hk]
theorem onLink_nth {k : Key} {i : Nat} {p : Pkt} (hi : L[i]? = some p) (hk : p.1 = k) : (onLink k L)[cnt k (L.take i)]? = some p := by
  have e1 : onLink k L = onLink k (L.take i) ++ p :: onLink k (L.drop (i + 1)) := by
    conv => lhs; rw [split_at hi]
    rw [onLink_append, onLink_cons, if_pos hk]
  rw [e1]
  unfold cnt
  rw [List.getElem?_append_right (Nat.le_refl _), Nat.sub_self]
  rfl
theorem kp_true (f t : Int) (p : Pkt) : kp f t true p = decide (p.1 ≠ (f, t)) := by
  obtain ⟨⟨p1, p2⟩, pv⟩ := p
  unfold kp
  by_cases h1 : p1 = f <;> by_cases h2 : p2 = t <;> simp [h1, h2]
theorem onLink_kept (k : Key) (f t : Int) (L : List Pkt) : onLink k (kept f t true L) = if k = (f, t) then [] else onLink k L := by
  unfold onLink kept
  rw [List.filter_filter]
  split
  · rename_i h
    subst h
    rw [List.filter_eq_nil_iff]
    intro p _
    rw [kp_true]
    simp
  · rename_i h
    refine List.filter_congr fun p _ => ?_
    rw [kp_true]
    by_cases h1 : p.1 = k
    · simp [h1, h]
    · simp [h1]
theorem onLink_cleared (k : Key) (t : Int) (L : List Pkt) : onLink k (kept 0 t false L) = if k.2 = t then [] else onLink k L := by
  unfold onLink kept
  rw [List.filter_filter]
  split
  · rename_i h
    subst h
    rw [List.filter_eq_nil_iff]
    intro p _
    unfold kp
    by_cases h1 : p.1 = k
    · simp [h1]
    · simp [h1]
  · rename_i h
    refine List.filter_congr fun p _ => ?_
    unfold kp
    by_cases h1 : p.1 = k
    · simp [h1, h]
    · simp [h1]
theorem onLink_all {k : Key} {M : List Pkt} (h : ∀ p ∈ M, p.1 = k) : onLink k M = M := List.filter_eq_self.2 (fun p hp => by simpa using h p hp)
theorem onLink_none {k k' : Key} {M : List Pkt} (h : ∀ p ∈ M, p.1 = k) (hk : k' ≠ k) : onLink k' M = [] := List.filter_eq_nil_iff.2 (fun p hp => by simp [h p hp]; exact fun e => hk e.symm)
theorem map_erase {α β : Type} (f : α → β) (l : List α) (i : Nat) : (l.eraseIdx i).map f = (l.map f).eraseIdx i := by simp [List.eraseIdx_eq_take_drop_succ]
/-- Send, Double. -/
theorem same_push {p : Pkt} (h : ∀ k, B k = bagOf k L) : ∀ k, setB B p.1 (B p.1 ++ [p.2.2]) k = bagOf k (L ++ [p]) := fun k => by
  rw [bagOf_push]
  by_cases e : k = p.1
  · subst e; rw [setB_same, if_pos rfl, h]
  · rw [setB_other _ _ e, if_neg (fun e2 => e e2.symm), h]
/-- Take. -/
theorem same_take {k0 : Key} {i : Nat} {p : Pkt} (h : ∀ k, B k = bagOf k L) (hi : L[i]? = some p) (hk : p.1 = k0) : ∀ k, setB B k0 ((B k0).eraseIdx (cnt k0 (L.take i))) k = bagOf k (L.eraseIdx i) := fun k => by
  by_cases e : k = k0
  · subst e
    rw [setB_same, h]
    unfold bagOf
    rw [onLink_erase hi hk, map_erase]
  · rw [setB_other _ _ e, h]
    unfold bagOf
    rw [onLink_erase_other hi (by rw [hk]; exact fun e2 => e e2.symm)]
theorem bag_at {k0 : Key} {i : Nat} {p : Pkt} (hi : L[i]? = some p) (hk : p.1 = k0) : (bagOf k0 L)[cnt k0 (L.take i)]? = some p.2.2 := by
  unfold bagOf; rw [List.getElem?_map, onLink_nth hi hk]; rfl
theorem mem_insert {α : Type} {p q : α} : ∀ (l : List α) (d : Nat), q ∈ l.insertIdx d p → q = p ∨ q ∈ l
  | l, 0, h => by simpa using h
  | [], d + 1, h => by simp at h
  | a :: l, d + 1, h => by
    simp only [List.insertIdx_succ_cons, List.mem_cons] at h
    rcases h with h | h
    · exact .inr (by simp [h])
    · rcases mem_insert l d h with h | h
      · exact .inl h
      · exact .inr (List.mem_cons_of_mem _ h)
theorem map_insert2 {α β : Type} (f : α → β) (a : α) : ∀ (l : List α) (d : Nat), (l.map f).insertIdx d (f a) = (l.insertIdx d a).map f
  | _, 0 => by simp
  | [], d + 1 => by simp
  | x :: l, d + 1 => by simp [map_insert2 f a l d]
theorem total_nil (ks : List Key) : total (fun k => bagOf k []) ks = 0 := by
  induction ks with
  | nil => rfl
  | cons a l ih => unfold total at *; simp only [List.map_cons, List.sum_cons, ih]; rfl
/-- Move. -/
theorem same_move {f t : Int} {i d : Nat} {p : Pkt} (h : ∀ k, B k = bagOf k L) (hi : L[i]? = some p) (hk : p.1 = (f, t)) :
    ∀ k, setB B (f, t) (((B (f, t)).eraseIdx (cnt (f, t) (L.take i))).insertIdx d p.2.2) k = bagOf k (kept f t true (L.eraseIdx i) ++ (onLink (f, t) (L.eraseIdx i)).insertIdx d p) := fun k => by
  have hall : ∀ q ∈ (onLink (f, t) (L.eraseIdx i)).insertIdx d p, q.1 = (f, t) := fun q hq => by
    rcases mem_insert _ _ hq with h5 | h5
    · rw [h5]; exact hk
    · exact (mem_onLink h5).2
  unfold bagOf
  rw [onLink_append, onLink_kept]
  by_cases e : k = (f, t)
  · rw [if_pos e, e, setB_same, h, onLink_all hall, List.nil_append]
    have := same_take (B := B) h hi hk (f, t)
    rw [setB_same, h] at this
    rw [this]
    unfold bagOf
    exact (map_insert2 (fun q : Pkt => q.2.2) p _ d)
  · rw [if_neg e, setB_other _ _ e, onLink_none hall e, List.append_nil, h]
    unfold bagOf
    rw [onLink_erase_other hi (by rw [hk]; exact fun e2 => e e2.symm)]
/-- Clear. -/
theorem same_clear (h : ∀ k, B k = bagOf k L) (t : Int) : ∀ k, clearB B t k = bagOf k (kept 0 t false L) := fun k => by
  unfold bagOf clearB
  rw [onLink_cleared]
  split
  · rfl
  · rw [h]; rfl
/-- What is counted. -/
theorem total_cnt : ∀ (L : List Pkt) (ks : List Key), ks.Nodup → (∀ p ∈ L, p.1 ∈ ks) → total (fun k => bagOf k L) ks = L.length
  | [], ks, _, _ => total_nil ks
  | p :: L, ks, hn, hc => by
    have ih := total_cnt L ks hn (fun q hq => hc q (List.mem_cons_of_mem _ hq))
    have hp := hc p (List.mem_cons_self ..)
    have step : ∀ l : List Key, l.Nodup → total (fun k => bagOf k (p :: L)) l = total (fun k => bagOf k L) l + (if p.1 ∈ l then 1 else 0) := by
      intro l hl
      induction l with
      | nil => simp [total]
      | cons a l ih2 =>
        rw [List.nodup_cons] at hl
        have h2 := ih2 hl.2
        unfold total at *
        simp only [List.map_cons, List.sum_cons]
        rw [h2]
        have h3 : (bagOf a (p :: L)).length = (bagOf a L).length + if p.1 = a then 1 else 0 := by
          unfold bagOf
          rw [onLink_cons]
          split <;> simp
        rw [h3]
        by_cases e : p.1 = a
        · subst e
          simp [hl.1]; omega
        · simp [e]
          split <;> omega
    rw [step ks hn, if_pos hp, ih]
    rfl
end
end Go.Proofs.Ytkkambhkfegodaa
