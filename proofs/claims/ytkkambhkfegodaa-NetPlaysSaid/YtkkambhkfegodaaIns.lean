/- slices.Insert of one packet into a bag that has room. Conditions: each law's own. -/
import Derived.Test.YtkkambhkfegodaaTake
import Derived.Shelf.Spec.SlicesInsert
namespace Go.Proofs.Ytkkambhkfegodaa
open Go.ChangeShapes Go.WideShapes Go.ChangeAt Go.RowKit

theorem size22 : (Try.prog.info? 22).map (·.size) = some 1 := by kernel_rfl
theorem heap_setCells_other (b : Nat) : ∀ (vs : List Value) (o : Nat) (w : World) (j : Nat), j ≠ b → (w.setCells b o vs).heap[j]? = w.heap[j]?
  | [], _, _, _, _ => rfl
  | v :: r, o, w, j, h => by rw [World.setCells, heap_setCells_other b r _ _ j h, Below.heap_setCell w ⟨b, o, none⟩ v j h]
theorem size_setCells (b : Nat) : ∀ (vs : List Value) (o : Nat) (w : World), (w.setCells b o vs).heap.size = w.heap.size
  | [], _, _ => rfl
  | v :: r, o, w => by rw [World.setCells, size_setCells b r]; simp
theorem os_setCells (b : Nat) : ∀ (vs : List Value) (o : Nat) (w : World), (w.setCells b o vs).os = w.os ∧ (w.setCells b o vs).tape = w.tape ∧ (w.setCells b o vs).output = w.output
  | [], _, _ => ⟨rfl, rfl, rfl⟩
  | v :: r, o, w => by rw [World.setCells]; exact os_setCells b r _ _
theorem Frame.setCells (w : World) (b o : Nat) (vs : List Value) : Frame (fun j => j ≠ b) w (w.setCells b o vs) :=
  ⟨(os_setCells b vs o w).1, (os_setCells b vs o w).2.1, (os_setCells b vs o w).2.2, by rw [size_setCells]; exact Nat.le_refl _, fun j _ h => heap_setCells_other b vs o w j h⟩
/-- What Insert leaves. -/
def insWorld (w : World) (g off i : Nat) (xs : List Value) (u : Value) : World := (w.drew.setCells g (off + (i + 1)) (xs.drop i)).setCells g (off + i) [u]
theorem Tail.insert {w : World} {g off n cap i : Nat} {xs : List Value} {u : Value} (h : Tail w 0 (.slice (some ⟨g, off, none⟩) n cap) n xs) (hi : i ≤ n) (hroom : n + 1 ≤ cap) :
    Tail (insWorld w g off i xs u) 0 (.slice (some ⟨g, off, none⟩) (n + 1) cap) (n + 1) (xs.insertIdx i u) ∧ Frame (fun j => some j ≠ (Value.slice (some ⟨g, off, none⟩) n cap).ownBlock) w (insWorld w g off i xs u) := by
  obtain ⟨ao, cap', hv, hl, h2, h3, h4, h5⟩ := h
  cases hv
  obtain ⟨g', off', ha, hg, hlt, hc, hx⟩ := h5 (by omega)
  cases ha
  have hdl : (xs.drop i).length = n - i := by rw [List.length_drop, hl]
  have hs1 : ∀ j, j < (xs.drop i).length → (w.drew.cell? ⟨g, off + (i + 1) + j, none⟩).isSome = true := fun j hj => by
    have := (hc (i + 1 + j) (by omega)).1
    rw [show off + (i + 1) + j = off + (i + 1 + j) by omega]; exact this
  have hs1' : ∀ j, j < cap → ((w.drew.setCells g (off + (i + 1)) (xs.drop i)).cell? ⟨g, off + j, none⟩).isSome = true := fun j hj =>
    Go.Proofs.isSome_setCells g _ _ _ hs1 _ (hc j hj).1
  have hs2 : ∀ j, j < [u].length → ((w.drew.setCells g (off + (i + 1)) (xs.drop i)).cell? ⟨g, off + i + j, none⟩).isSome = true := fun j hj => by
    simp at hj; subst hj; exact hs1' i (by omega)
  have hF := (Frame.trans (Frame.trans (⟨rfl, rfl, rfl, Nat.le_refl _, fun _ _ _ => rfl⟩ : Frame (fun j => j ≠ g) w w.drew) (.setCells w.drew g (off + (i + 1)) (xs.drop i))) (.setCells _ g (off + i) [u]))
  refine ⟨⟨_, cap, rfl, by rw [List.length_insertIdx_of_le_length (by omega), hl], hroom, h3, fun h => (by cases h), fun _ => ⟨g, off, rfl, hg, Nat.lt_of_lt_of_le hlt hF.size, fun j hj => ⟨Go.Proofs.isSome_setCells g _ _ _ hs2 _ (hs1' j hj), ?_⟩, fun j y hy => ?_⟩⟩, hF.os, hF.tape, hF.output, hF.size, fun j hj hA => hF.block j hj (fun e => hA (by rw [e]; rfl))⟩
  · unfold insWorld
    rw [World.frozen?_setCells, World.frozen?_setCells]; exact (hc j hj).2
  · unfold insWorld
    rw [List.getElem?_insertIdx] at hy
    split at hy
    · rename_i hji
      rw [World.cell?_setCells_out g _ _ _ _ (fun _ _ => by show off + j < off + i ∨ _; omega), World.cell?_setCells_out g _ _ _ _ (fun _ _ => by show off + j < off + (i + 1) ∨ _; omega)]
      exact hx j y hy
    · rename_i hji
      split at hy
      · rename_i hje
        subst hje
        rw [if_pos (by omega)] at hy
        injection hy with hy
        subst hy
        have := World.cell?_setCells_in g [u] (off + j) _ hs2 0 (by simp)
        simpa using this
      · rename_i hje
        rw [World.cell?_setCells_out g _ _ _ _ (fun _ _ => by show off + j < off + i ∨ off + i + [u].length ≤ off + j; simp; omega)]
        have hjl : j - 1 < n := by have := (List.getElem?_eq_some_iff.1 hy).1; omega
        have := World.cell?_setCells_in g (xs.drop i) (off + (i + 1)) _ hs1 (j - (i + 1)) (by omega)
        rw [show off + (i + 1) + (j - (i + 1)) = off + j by omega] at this
        rw [this]
        rw [List.getElem_drop]
        rw [← hy, List.getElem?_eq_getElem (by omega)]
        congr 1
        congr 1
        omega
set_option maxHeartbeats 4000000 in
set_option maxRecDepth 100000 in
theorem c26shift {w : World} {g off n cap i vb m : Nat} {xs vs : List Value} (h : Tail w 0 (.slice (some ⟨g, off, none⟩) n cap) n xs) (h1 : ∀ y ∈ xs, y.oneCell' = true) (h1v : ∀ y ∈ vs, y.oneCell' = true) (hm : 0 < m) (hvl : vs.length = m)
    (hi : i < n) (hn : n + m ≤ 1000) (hroom : n + m ≤ cap) (hvb : vb ≠ g) (hv : VarAt w vb 22 vs) :
    Calls Try.prog 26 #[.slice (some ⟨g, off, none⟩) n cap, .int .i64 i, .slice (some ⟨vb, 0, none⟩) m m] w fun e w' =>
      e = .returned (.slice (some ⟨g, off, none⟩) (n + m) cap) ∧ w' = (w.drew.setCells g (off + (i + m)) (xs.drop i)).setCells g (off + i) vs := by
  refine gen fun R hR => ?_
  obtain ⟨ao, cap', hv', hl, h2, h3, h4, h5⟩ := h
  cases hv'
  obtain ⟨g', off', ha, hg, hlt, hc, hx⟩ := h5 (by omega)
  cases ha
  obtain ⟨tB, kB, hsb, hkB⟩ : ∃ tB kB, w.shape? g = some (tB, kB) ∧ kB ≠ 0 := by
    have := (hc 0 (by omega)).1
    unfold World.cell? at this
    unfold World.shape?
    split at this
    · rename_i c e fr hh
      simp at hh
      rw [hh]
      refine ⟨e, c.size, rfl, ?_⟩
      intro e0
      simp at this
      omega
    · cases this
  have hsa : w.shape? vb = some (22, vs.length) := by unfold World.shape?; unfold VarAt at hv; rw [hv]; simp
  have hz1 : ¬ ((m : Int) = 0) := by omega
  have hz2 : ¬ ((i : Int) = (n : Int)) := by omega
  have hov : ∀ lb cb, (callFunc 38 #[.slice (some ⟨vb, 0, none⟩) m m, .slice (some ⟨g, off + (i + m), none⟩) lb cb]).run Try.prog w = .ok (.value (.bool false)) w := fun lb cb => by
    rw [run_callFunc_extern Try.func38 (by kernel_rfl) (by kernel_rfl) (by kernel_rfl) (e := Extern.SlicesOverlaps.overlaps #[56, 56] #[4]) (by kernel_rfl),
      Lib.run_overlaps_apart w 56 4 22 underlying56 1 Try.sizeOf22 ⟨vb, 0, none⟩ ⟨g, off + (i + m), none⟩ m m lb cb hvb 22 tB vs.length kB hsa hsb hkB (hv.free 0) (hv.free _)]
    rfl
  have hdl : (xs.drop i).length = n - i := by rw [List.length_drop, hl]
  have hw1 : IntKind.i64.wrap ((i : Int) + (m : Int)) = (i : Int) + (m : Int) := by rw [IntKind.wrap_i64]; omega
  have hw2 : IntKind.i64.wrap ((n : Int) + (m : Int)) = (n : Int) + (m : Int) := by rw [IntKind.wrap_i64]; omega
  have hb1 : (0 : Int) ≤ (i : Int) + (m : Int) := by omega
  have hin : i ≤ n := by omega
  have htn : ((i : Int) + (m : Int)).toNat = i + m := by omega
  have hb2 : ¬ (cap = i + m) := by omega
  have hb3 : (i : Int) ≤ (n : Int) + (m : Int) := by omega
  have hb4 : ¬ (cap = i) := by omega
  have hb5 : ¬ ((cap : Int) < (n : Int) + (m : Int)) := by omega
  have hcp1 : ∀ ty dc sc, (Builtin.copy_ #[56, 56] ty #[.slice (some ⟨g, off + (i + m), none⟩) (n + m - (i + m)) dc, .slice (some ⟨g, off + i, none⟩) (n + m - i) sc]).run Try.prog w.drew = .ok (goInt (xs.drop i).length) (w.drew.setCells g (off + (i + m)) (xs.drop i)) := fun ty dc sc =>
    run_copy_cells w.drew _ _ ty 22 g (off + (i + m)) (n + m - (i + m)) dc ⟨g, off + i, none⟩ (n + m - i) sc (xs.drop i) underlying56 size22 (by rw [hdl]; simp only [Nat.min_def]; split <;> omega)
      (fun j v hj => by rw [Go.WideShapes.add_plain, Nat.add_assoc]; exact hx (i + j) v (by rwa [List.getElem?_drop] at hj))
      (fun j hj => by rw [Nat.add_assoc]; exact (hc _ (by omega)).1) (fun j hj => by rw [Nat.add_assoc]; exact (hc _ (by omega)).2) (fun v hv => h1 v (List.mem_of_mem_drop hv))
  obtain ⟨W1, hW1⟩ : ∃ W1, W1 = w.drew.setCells g (off + (i + m)) (xs.drop i) := ⟨_, rfl⟩
  have hsp1 : ∀ k, k < n + m → (W1.cell? ⟨g, off + k, none⟩).isSome = true := fun k hk => by
    rw [hW1]
    exact Go.Proofs.isSome_setCells g _ _ _ (fun j hj => by rw [Nat.add_assoc]; exact (hc _ (by omega)).1) _ (hc k (by omega)).1
  have hcp2 : ∀ (W : World), (∀ x, W.cell? x = W1.cell? x) → (∀ x, W.frozen? x = W1.frozen? x) → ∀ ty dc, (Builtin.copy_ #[56, 56] ty #[.slice (some ⟨g, off + i, none⟩) (n + m - i) dc, .slice (some ⟨vb, 0, none⟩) m m]).run Try.prog W = .ok (goInt vs.length) (W.setCells g (off + i) vs) := fun W hWc hWf ty dc =>
    run_copy_cells W _ _ ty 22 g (off + i) (n + m - i) dc ⟨vb, 0, none⟩ m m vs underlying56 size22 (by rw [hvl]; simp only [Nat.min_def]; split <;> omega)
      (fun j v hj => by
        rw [Go.WideShapes.add_plain, hWc, hW1, World.cell?_setCells_out g _ _ _ _ (fun h _ => absurd h hvb), Nat.zero_add]
        exact hv.cell hj)
      (fun j hj => by rw [hWc, Nat.add_assoc]; exact hsp1 _ (by omega)) (fun j hj => by rw [hWf, hW1, World.frozen?_setCells, Nat.add_assoc]; exact (hc _ (by omega)).2) h1v
  rw [← hW1] at hcp1
  have HW1 := Lib.hid hW1
  clear hx hc h5 hW1 hsp1 hsa hsb hv
  go_enter Try.func26, Try.ntmps26
  go_wp2_with (first | simp only [hov] | fail)
  go_region_law (refine step_copy_runI rfl _ _ 56 56 rfl _ _ (by simp [Act.eval, Act.put]) (by simp [Act.eval, Act.put]) (hcp1 _ _ _) ?_)
  go_wp2_with (at_builtin; refine wpList_copy_runI _ rfl _ _ 56 56 rfl _ _ (by rfl) (by rfl) (hcp2 _ (fun _ => rfl) (fun _ => rfl) _ _) ?_)
  go_tidy
  exact ⟨rfl, by rw [HW1.out]⟩
set_option maxHeartbeats 4000000 in
theorem c26end {w : World} {g off n cap vb : Nat} {xs : List Value} {u : Value} (h : Tail w 0 (.slice (some ⟨g, off, none⟩) n cap) n xs) (hu : u.oneCell' = true) (hn : n ≤ 1000) (hv : VarAt w vb 22 [u]) :
    Calls Try.prog 26 #[.slice (some ⟨g, off, none⟩) n cap, .int .i64 n, .slice (some ⟨vb, 0, none⟩) 1 1] w fun e w' => ∃ v3, e = .returned v3 ∧ Tail w' 0 v3 (n + 1) (xs ++ [u]) ∧ w.grownBy w' (Value.slice (some ⟨g, off, none⟩) n cap).ownBlock ∧
      (v3.ownBlock = (Value.slice (some ⟨g, off, none⟩) n cap).ownBlock ∨ ∃ g', v3.ownBlock = some g' ∧ w.heap.size ≤ g') := by
  refine gen (S := fun e w' => ∃ v3, e = .returned v3 ∧ Tail w' 0 v3 (n + 1) (xs ++ [u]) ∧ w.grownBy w' (Value.slice (some ⟨g, off, none⟩) n cap).ownBlock ∧
      (v3.ownBlock = (Value.slice (some ⟨g, off, none⟩) n cap).ownBlock ∨ ∃ g', v3.ownBlock = some g' ∧ w.heap.size ≤ g')) fun R hR => ?_
  have hp := hv.cell (j := 0) (u := u) rfl
  have H := Lib.hid h
  have hcap : n ≤ cap := by obtain ⟨_, _, hv, _, h2, _⟩ := h; cases hv; exact h2
  clear h hv
  go_enter Try.func26, Try.ntmps26
  go_wp2_with (first
    | (at_builtin; refine wpList_append_tail w rfl (.tmp 23) (.tmp 24) 56 rfl 0 22 (.slice none 0 0) 24 underlying56 info22 rfl u hu _ n xs (by rfl) H.out vb (by rfl) hp (by unfold maxLen; omega) (by omega) (Nat.zero_le _) ?_; intro v3 w3 hT3 hg3 ho3)
    | fail)
  all_goals
    go_tidy
    first
      | exact ⟨v3, rfl, hT3, hg3, ho3⟩
      | exact ⟨hT3, hg3, ho3⟩
      | exact ⟨hg3, ho3⟩
def InsPost (w : World) (g off n cap i : Nat) (xs : List Value) (u : Value) (e : Ending) (w' : World) : Prop :=
  ∃ v3, e = .returned v3 ∧ Tail w' 0 v3 (n + 1) (xs.insertIdx i u) ∧ (v3.ownBlock = (Value.slice (some ⟨g, off, none⟩) n cap).ownBlock ∨ ∃ g', v3.ownBlock = some g' ∧ w.heap.size ≤ g') ∧ Frame (fun j => some j ≠ (Value.slice (some ⟨g, off, none⟩) n cap).ownBlock) w w'
theorem c26 {w : World} {g off n cap i vb : Nat} {xs : List Value} {u : Value} (h : Tail w 0 (.slice (some ⟨g, off, none⟩) n cap) n xs) (h1 : ∀ y ∈ xs, y.oneCell' = true) (hu : u.oneCell' = true)
    (hi : i ≤ n) (hn : n < 1000) (hroom : n + 1 ≤ cap) (hvb : vb ≠ g) (hv : VarAt w vb 22 [u]) :
    Calls Try.prog 26 #[.slice (some ⟨g, off, none⟩) n cap, .int .i64 i, .slice (some ⟨vb, 0, none⟩) 1 1] w (InsPost w g off n cap i xs u) := by
  rcases Nat.lt_or_ge i n with hlt | hge
  · refine (c26shift (m := 1) (vs := [u]) h h1 (by simpa using hu) (by decide) rfl hlt (by omega) hroom hvb hv).mono ?_
    rintro e w' ⟨rfl, rfl⟩
    obtain ⟨q1, q2⟩ := h.insert (u := u) hi hroom
    exact ⟨_, rfl, q1, .inl rfl, q2⟩
  · obtain rfl : i = n := by omega
    refine (c26end h hu (by omega) hv).mono ?_
    rintro e w' ⟨v3, rfl, q1, q2, q3⟩
    have hl : xs.length = i := by obtain ⟨_, _, hv, h1, _⟩ := h; exact h1
    refine ⟨v3, rfl, ?_, q3, .of_grown q2 (fun j hj => hj)⟩
    have : xs.insertIdx i u = xs ++ [u] := by rw [← hl]; exact List.insertIdx_length_self ..
    rw [this]; exact q1
end Go.Proofs.Ytkkambhkfegodaa
