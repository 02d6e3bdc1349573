/- Clear on the network and on its reference. Conditions: each law's own. -/
import Derived.Test.YtkkambhkfegodaaPairs
namespace Go.Proofs.Ytkkambhkfegodaa
open Go.ChangeShapes Go.WideShapes Go.ChangeAt Go.RowKit

section
variable {w0 w : World} {x y : Nat} {s : NS} {lv : Value} {B : Key → List (List Int)} {L : List Pkt} {N : Nat}
theorem total_congr {B C : Key → List (List Int)} : ∀ ks : List Key, (∀ k ∈ ks, B k = C k) → total B ks = total C ks
  | [], _ => rfl
  | k :: ks, h => by
    have ih := total_congr ks (fun q hq => h q (List.mem_cons_of_mem _ hq))
    have hk := h k (List.mem_cons_self ..)
    unfold total at *
    simp only [List.map_cons, List.sum_cons]
    rw [ih, hk]
def toL (t : Int) (L : List Pkt) : List Pkt := L.filter fun p => decide (p.1.2 = t)
theorem onLink_toL {k : Key} {t : Int} (h : k.2 = t) (L : List Pkt) : onLink k (toL t L) = onLink k L := by
  unfold onLink toL
  rw [List.filter_filter]
  refine List.filter_congr fun p _ => ?_
  by_cases h1 : p.1 = k
  · simp [h1, h]
  · simp [h1]
theorem toL_len (t : Int) (L : List Pkt) : (toL t L).length + (kept 0 t false L).length = L.length := by
  have e : kept 0 t false L = L.filter fun p => !decide (p.1.2 = t) := List.filter_congr fun p _ => by unfold kp; simp
  rw [e]
  unfold toL
  clear e
  induction L with
  | nil => rfl
  | cons p L ih =>
    rw [List.filter_cons, List.filter_cons]
    by_cases h : p.1.2 = t
    · simp only [h, decide_true, if_true, Bool.not_true, List.length_cons]; simp; omega
    · simp only [h, decide_false, Bool.not_false, if_true, List.length_cons]; simp; omega
theorem clear_count (h : ∀ k, B k = bagOf k L) (t : Int) {ks : List Key} (h1 : ks.Pairwise ltL) (h2 : ∀ k, k ∈ ks ↔ B k ≠ []) : ((total B (forTo t ks) : Nat) : Int) = (L.length : Int) - ((kept 0 t false L).length : Int) := by
  have hn : (forTo t ks).Nodup := (h1.imp (by rintro a b h rfl; unfold ltL at h; omega) : ks.Nodup).sublist List.filter_sublist
  have e1 : total B (forTo t ks) = total (fun k => bagOf k (toL t L)) (forTo t ks) := by
    refine total_congr _ fun k hk => ?_
    have : k.2 = t := by simpa using (List.mem_filter.1 hk).2
    rw [h]
    unfold bagOf
    rw [onLink_toL this]
  have e2 := total_cnt (toL t L) (forTo t ks) hn (fun p hp => by
    have hp1 := (List.mem_filter.1 hp).1
    have hp2 : p.1.2 = t := by simpa using (List.mem_filter.1 hp).2
    unfold forTo
    refine List.mem_filter.2 ⟨(h2 p.1).2 ?_, by simpa using hp2⟩
    rw [h]
    intro e
    have : p.2.2 ∈ bagOf p.1 L := List.mem_map.2 ⟨p, List.mem_filter.2 ⟨hp1, by simp⟩, rfl⟩
    rw [e] at this
    cases this)
  have := toL_len t L
  rw [e1, e2]
  omega
theorem pair_clear (h : Both w0 w x s y lv B L N) (hL : L.length ≤ 500) (hN : N ≤ 100000) (t : Int) :
    ∃ n : Int, Pair w0 x s y lv B L N w 22 #[.pointer (some ⟨x, 0, none⟩), .int .i64 t] 36 #[.pointer (some ⟨y, 0, none⟩), .int .i64 t] (.int .i64 n) := by
  refine ⟨(L.length : Int) - ((kept 0 t false L).length : Int), clearB B t, kept 0 t false L, ?_, fun w2 hr => ?_, same_clear h.same t, ?_⟩
  · refine (c22 h.net h.zlt hN t).mono ?_
    rintro e w' ⟨ks, h1, h2, rfl, s', hN2, hS⟩
    rw [clear_count h.same t h1 h2]
    exact ⟨rfl, s', hN2.mono (Nat.le_succ _), hS⟩
  · exact c36 hr (by omega) t
  · have := toL_len t L; omega
theorem Both.drew (h : Both w0 w x s y lv B L N) : Both w0 w.drew x s y lv B L N := h.below (Below.refl _ _).drew
end
end Go.Proofs.Ytkkambhkfegodaa
