/- A queue that is not yet sorted, and the sort of it. Conditions: each law's own. -/
import Derived.Test.YtamjdghjaimihaaQRight
namespace Go.Proofs.Ytamjdghjaimihaa
open Go.ChangeShapes Go.WideShapes Go.ChangeAt Go.RowKit

structure QRaw (w : World) (x : Nat) (g : Int) (S : QS) (M : List MemO) (v : Value) (B : Nat) : Prop where
  box : VarAt w x 78 [.int .i64 g, .int .u64 S.clock, v]
  row : Tail w B v M.length (M.map ptr)
  lst : (M.map (·.o)).Perm S.L
  ok : QOk g S
  ones : ∀ y ∈ M, OneAt w g B y
  maps : M.Pairwise fun a b => a.m ≠ b.m
  sep : ∀ k, v.ownBlock = some k → k ≠ x ∧ ∀ y ∈ M, k ≠ y.p ∧ k ≠ y.m ∧ y.gs.ownBlock ≠ some k
  lowX : B ≤ x
  lowR : ∀ k, v.ownBlock = some k → B ≤ k ∧ k < w.heap.size
  g0 : 0 ≤ g ∧ g < 4
theorem QAt.raw {w : World} {x : Nat} {g : Int} {S : QS} {M : List MemO} {v : Value} {B : Nat} (h : QAt w x g S M v B) : QRaw w x g S M v B :=
  ⟨h.box, h.row, by rw [h.lst]; exact ord_perm g S.L, h.ok, h.ones, h.maps, h.sep, h.lowX, h.lowR, h.g0⟩
def ResortEnd (x : Nat) (g : Int) (B : Nat) (w : World) (S : QS) (M : List MemO) (v : Value) (e : Ending) (w' : World) : Prop :=
  e = .returned (.tuple #[]) ∧ ∃ M' : List MemO, QAt w' x g S M' v B ∧ QStep x w M v w' M' v
theorem c36r {w : World} {x : Nat} {g : Int} {S : QS} {M : List MemO} {v : Value} {B : Nat} (h : QRaw w x g S M v B) (hpos : 0 < M.length) (hn : M.length < 4611686018427387904) :
    Calls Try.prog 36 #[.pointer (some ⟨x, 0, none⟩)] w (ResortEnd x g B w S M v) := by
  have hok : ∀ y ∈ M, OneOk g S.clock y.o := fun y hy => h.ok.ones y.o (h.lst.mem_iff.1 (List.mem_map_of_mem hy))
  refine (c36 (clock := S.clock) h.box h.row (fun y hy => ⟨h.ones y hy, hok y hy⟩) hpos (fun k hk y hy => (h.sep k hk).2 y hy) hn).mono ?_
  rintro e w' ⟨rfl, M', hp, hs, hT, hg⟩
  have hone : ∀ y ∈ M, OneAt w' g B y := fun y hy => by
    have h0 := h.ones y hy
    refine h0.keep (hg.block _ h0.box.lt fun e => ((h.sep _ e.symm).2 y hy).1 rfl) (hg.block _ h0.map.lt fun e => ((h.sep _ e.symm).2 y hy).2.1 rfl) fun k hk => hg.block k (h0.row.lt k hk).2 fun e => ((h.sep _ e.symm).2 y hy).2.2 hk
  have hpo : (M'.map (·.o)).Perm S.L := (hp.map _).trans h.lst
  refine ⟨rfl, M', ⟨h.box.grown hg (fun e => (h.sep _ e.symm).1 rfl), hT, ?_, h.ok, fun y hy => hone y (hp.mem_iff.1 hy), ?_, fun k hk => ⟨(h.sep k hk).1, fun y hy => (h.sep k hk).2 y (hp.mem_iff.1 hy)⟩, h.lowX, fun k hk => ⟨(h.lowR k hk).1, Nat.lt_of_lt_of_le (h.lowR k hk).2 hg.size⟩, h.g0⟩, ?_⟩
  · refine ord_eq h.ok.apart hpo ?_
    have ha : Apart (M'.map (·.o)) := h.ok.apart.perm hpo
    unfold Apart at ha
    unfold Sorted
    rw [List.pairwise_map] at ha ⊢
    refine (List.Pairwise.and ha hs).imp ?_
    rintro a b ⟨h1, h2⟩
    exact LtO.total h1 h2
  · exact (hp.pairwise_iff (fun h e => h e.symm)).2 h.maps
  · refine ⟨hg.os, hg.tape, hg.output, hg.size, fun k hk hn => hg.block k hk fun e => hn (.inr (.inl e.symm)), fun k hk => ?_, fun k hk => ?_⟩
    · rcases hk with rfl | hk | ⟨y, hy, hk⟩
      · exact .inl (.inl rfl)
      · exact .inl (.inr (.inl hk))
      · exact .inl (.inr (.inr ⟨y, hp.mem_iff.1 hy, hk⟩))
    · rcases hk with (rfl | hk | ⟨y, hy, hk⟩) | ⟨y, hy, hk⟩
      · exact .inl (.inl (.inl rfl))
      · exact .inl (.inl (.inr (.inl hk)))
      · exact .inl (.inl (.inr (.inr ⟨y, hp.mem_iff.1 hy, hk⟩)))
      · exact .inl (.inr ⟨y, hp.mem_iff.1 hy, hk⟩)
theorem tail_own {w : World} {base n : Nat} {v : Value} {xs : List Value} (h : Tail w base v (n + 1) xs) : ∃ k, v.ownBlock = some k ∧ k < w.heap.size ∧ base ≤ k := by
  obtain ⟨ao, cap, rfl, h1, h2, h3, h4, h5⟩ := h
  obtain ⟨g, off, rfl, hg, hlt, _⟩ := h5 (by omega)
  exact ⟨g, rfl, hlt, hg⟩

/-! ### One begins -/
theorem rising_one {l : List Int} {g : Int} (hr : l.Pairwise (· < ·)) (hg : g ∈ l) (h : ∀ x ∈ l, x = g) : l = [g] := by
  cases l with
  | nil => cases hg
  | cons a l =>
    obtain rfl := h a (List.mem_cons_self ..)
    cases l with
    | nil => rfl
    | cons b l =>
      rw [List.pairwise_cons] at hr
      have h1 := hr.1 b (List.mem_cons_self ..)
      have h2 := h b (by simp)
      omega
theorem final_new {g c : Int} {id : IdD} {groups : List Int} (hr : Right g groups) (hc : 1 ≤ c) : final (newOne g c id groups) = ((groups.length : Int) == 1) := by
  rw [Bool.eq_iff_iff, beq_iff_eq]
  unfold final newOne
  simp only [List.all_eq_true, decide_eq_true_eq]
  constructor
  · intro h
    have : groups = [g] := rising_one hr.2.1 hr.2.2 fun x hx => by
      have := h x hx
      by_cases e : x = g
      · exact e
      · rw [if_neg e] at this; exact absurd rfl this
    rw [this]; rfl
  · intro h x hx
    have hl : groups.length = 1 := by omega
    obtain ⟨a, ha⟩ := List.length_eq_one_iff.1 hl
    have hg := hr.2.2
    rw [ha] at hg hx
    simp at hg hx
    subst hg; subst hx
    rw [if_pos rfl]; omega
theorem topS_new {g c : Int} {id : IdD} {groups : List Int} (hg : 0 ≤ g ∧ g < 4) (hc : 0 ≤ c) : topS (newOne g c id groups) = c := by
  have : g = 0 ∨ g = 1 ∨ g = 2 ∨ g = 3 := by omega
  unfold topS newOne
  rcases this with rfl | rfl | rfl | rfl <;> simp <;> omega
theorem stampS_new {g c : Int} {id : IdD} {groups : List Int} (hg : 0 ≤ g ∧ g < 4) (hc : 0 ≤ c) : stampS g (newOne g c id groups) = c := by
  unfold stampS
  split
  · exact topS_new hg hc
  · simp [newOne]
theorem OneOk.clock {g c c' : Int} {o : OneD} (h : OneOk g c o) (hc : c ≤ c') : OneOk g c' o := { h with ownLe := Int.le_trans h.ownLe hc, top := Int.le_trans h.top hc }
theorem QOk.begin {g : Int} {S : QS} {id : IdD} {groups : List Int} (h : QOk g S) (hg : 0 ≤ g ∧ g < 4) (hr : Right g groups) (hno : ∀ o ∈ S.L, o.id ≠ id) (hc : S.clock < mostS) : QOk g ⟨S.clock + 1, S.L ++ [newOne g (S.clock + 1) id groups]⟩ := by
  have h0 := h.clock0
  refine ⟨?_, fun o ho => ?_, by simp only; omega, by simp only; omega⟩
  · unfold Apart
    rw [List.pairwise_append]
    refine ⟨h.apart, List.pairwise_singleton _ _, fun a ha b hb => ?_⟩
    simp at hb; subst hb
    exact hno a ha
  · rcases List.mem_append.1 ho with h1 | h1
    · exact (h.ones o h1).clock (by simp only; omega)
    · simp at h1; subst h1
      refine ⟨hr.2.1, hr.1, hr.2.2, fun k hk => ?_, fun k => ?_, by simp [newOne]; omega, by simp [newOne], by rw [stampS_new hg (by omega)]; exact Int.le_refl _⟩
      · unfold newOne at hk
        simp only at hk
        by_cases e : k = g
        · rw [e]; exact hr.2.2
        · rw [if_neg e] at hk; exact absurd rfl hk
      · unfold newOne
        simp only
        split
        · omega
        · unfold mostS; omega
end Go.Proofs.Ytamjdghjaimihaa
