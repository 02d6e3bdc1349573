/- What a network that is not there answers; awake. Conditions: each law's own. -/
import Derived.Test.YtkkambhkfegodaaCount
import Derived.Test.YtkkambhkfegodaaHeld
import Derived.Deep.QuietTactic
import Derived.BigQuiet
namespace Go.Proofs.Ytkkambhkfegodaa
open Go.ChangeShapes Go.WideShapes Go.ChangeAt Go.RowKit

theorem total_of {B : Key → List (List Int)} {ks : List Key} (h1 : ks.Pairwise ltL) (h2 : ∀ k, k ∈ ks ↔ B k ≠ []) (ls : List Key) (hn : ls.Nodup) (hc : ∀ k, B k ≠ [] → k ∈ ls) : total B ks = total B ls := by
  have hnk : ks.Nodup := h1.imp (by rintro a b h rfl; unfold ltL at h; omega)
  have hp : ks.Perm (ls.filter fun k => decide (B k ≠ [])) := by
    refine (List.perm_ext_iff_of_nodup hnk (hn.sublist List.filter_sublist)).2 fun k => ?_
    rw [h2, List.mem_filter]
    simp only [decide_eq_true_eq]
    exact ⟨fun h => ⟨hc k h, h⟩, fun h => h.2⟩
  have hs : ∀ ls : List Key, total B (ls.filter fun k => decide (B k ≠ [])) = total B ls := by
    intro ls
    induction ls with
    | nil => rfl
    | cons k ls ih =>
      rw [List.filter_cons]
      split
      · simp only [total, List.map_cons, List.sum_cons] at *; omega
      · rename_i hk
        have hk0 : B k = [] := by simpa using hk
        rw [ih]; simp [total, hk0]
  rw [← hs ls]
  unfold total
  exact (hp.map _).sum_nat
theorem c15nil (w : World) : Calls Try.prog 15 #[.pointer none] w fun e w' => e = .returned (.slice none 0 0) ∧ w' = w := by
  refine gen fun R hR => ?_
  go_enter Try.func15, Try.ntmps15
  go_wp2
theorem c12nil (w : World) : Calls Try.prog 12 #[.pointer none] w fun e w' => e = .returned (.int .i64 0) ∧ w' = w := by
  refine gen fun R hR => ?_
  go_enter Try.func12, Try.ntmps12
  go_wp2_with (first | (go_at_call 15; (with_reducible refine (c15nil _).mono ?_); rintro e w' ⟨rfl, rfl⟩) | fail)
  go_loopw [3, 9] (fun c i wr => c = .int .i64 0 ∧ i = .int .i64 0 ∧ wr = w') (fun _ _ _ => 0)
  case atStart => exact ⟨rfl, rfl, rfl⟩
  case round =>
    obtain ⟨rfl, rfl, rfl⟩ := hrel
    go_wp2
theorem c22nil (t : Int) (w : World) : Calls Try.prog 22 #[.pointer none, .int .i64 t] w fun e w' => e = .returned (.int .i64 0) ∧ w' = w := by
  refine gen fun R hR => ?_
  go_enter Try.func22, Try.ntmps22
  go_wp2_with (first | (go_at_call 15; (with_reducible refine (c15nil _).mono ?_); rintro e w' ⟨rfl, rfl⟩) | fail)
  go_loopw [5, 11] (fun c i wr => c = .int .i64 0 ∧ i = .int .i64 0 ∧ wr = w') (fun _ _ _ => 0)
  case atStart => exact ⟨rfl, rfl, rfl⟩
  case round =>
    obtain ⟨rfl, rfl, rfl⟩ := hrel
    go_wp2
theorem c20nil (f t : Int) (w : World) : Calls Try.prog 20 #[.pointer none, .int .i64 f, .int .i64 t] w fun e w' => e = .returned (.slice none 0 0) ∧ w' = w := by
  refine gen fun R hR => ?_
  go_enter Try.func20, Try.ntmps20
  go_wp2
theorem mixed : Try.prog.follows .mixedOrders = true := sortL.mixed
theorem Below.of_grow {w : World} {q : Nat} {os : Array Obj} : Below w.heap.size w (Go.Sort.grow (w.drewN q) os) :=
  ⟨rfl, rfl, rfl, by simp [Go.Sort.grow, World.drewN], fun j hj => by
    show (w.heap ++ os)[j]? = _
    rw [Array.getElem?_append_left hj]⟩
theorem c24nil (f t a : Int) (w : World) : Calls Try.prog 24 #[.pointer none, .agg #[.int .i64 f, .int .i64 t], .int .i64 a] w fun e w' => e = .returned (.bool false) ∧ ∃ q os, w' = Go.Sort.grow (w.drewN q) os := by
  refine gen fun R hR => ?_
  go_enter Try.func24, Try.ntmps24
  go_wp2
  generalize hW : (World.alloc _ _) = W1
  have hB := Lib.hid hW
  clear hW
  go_quiet (fail)
  go_wp2
  refine ⟨rfl, nq, #[.cells #[.int .i64 f, .int .i64 t] 54], ?_⟩
  rw [← hB.out, Go.Sort.alloc_eq_grow]; rfl
theorem c10nil (f t : Int) (a : Option Addr) (n c : Nat) (w : World) : Calls Try.prog 10 #[.pointer none, .int .i64 f, .int .i64 t, .slice a n c] w fun e w' => e = .returned (.bool false) ∧ ∃ q os, w' = Go.Sort.grow (w.drewN q) os := by
  refine gen fun R hR => ?_
  go_enter Try.func10, Try.ntmps10
  go_wp2
  generalize hW : (World.alloc _ _) = W1
  have hB := Lib.hid hW
  clear hW
  go_quiet (fail)
  go_wp2
  refine ⟨rfl, nq, #[.cells #[.int .i64 f, .int .i64 t] 54], ?_⟩
  rw [← hB.out, Go.Sort.alloc_eq_grow]; rfl
theorem c11nil (f t a : Int) (w : World) : Calls Try.prog 11 #[.pointer none, .int .i64 f, .int .i64 t, .int .i64 a] w fun e w' => e = .returned (.tuple #[.slice none 0 0, .bool false]) ∧ Below w.heap.size w w' := by
  refine gen fun R hR => ?_
  have h24 := fun W => c24nil f t a W
  go_enter Try.func11, Try.ntmps11
  go_wp2_with (first | (go_at_call 24; (with_reducible refine (h24 _).mono ?_); rintro e w' ⟨rfl, hb⟩) | fail)
  go_tidy
  obtain ⟨q, os, rfl⟩ := hb
  exact ⟨rfl, ((Below.refl _ _).alloc (Nat.le_refl _) _).trans (Below.of_grow.mono (by simp))⟩
theorem c14nil (f t a d : Int) (w : World) : Calls Try.prog 14 #[.pointer none, .int .i64 f, .int .i64 t, .int .i64 a, .int .i64 d] w fun e w' => e = .returned (.bool false) ∧ Below w.heap.size w w' := by
  refine gen fun R hR => ?_
  have h24 := fun W => c24nil f t a W
  go_enter Try.func14, Try.ntmps14
  go_wp2_with (first | (go_at_call 24; (with_reducible refine (h24 _).mono ?_); rintro e w' ⟨rfl, hb⟩) | fail)
  go_tidy
  obtain ⟨q, os, rfl⟩ := hb
  exact ⟨rfl, ((Below.refl _ _).alloc (Nat.le_refl _) _).trans (Below.of_grow.mono (by simp))⟩
def KeyS (K : Nat) (f t : Int) (w' : World) : Prop := w'.cell? ⟨K, 0, none⟩ = some (.int .i64 f) ∧ w'.cell? ⟨K, 1, none⟩ = some (.int .i64 t)
theorem VarAt.keyS {W : World} {K : Nat} {f t : Int} (h : VarAt W K 54 [.int .i64 f, .int .i64 t]) : KeyS K f t W := ⟨h.cell (j := 0) rfl, h.cell (j := 1) rfl⟩
theorem VarAt.drew {W : World} {K : Nat} {T : TypeId} {cs : List Value} (h : VarAt W K T cs) : VarAt W.drew K T cs := h
set_option maxHeartbeats 1000000 in
theorem c13nil (f t a : Int) (w : World) : Calls Try.prog 13 #[.pointer none, .int .i64 f, .int .i64 t, .int .i64 a] w fun e w' => e = .returned (.bool false) ∧ Below w.heap.size w w' := by
  refine gen fun R hR => ?_
  have h24 := fun W => c24nil f t a W
  go_enter Try.func13, Try.ntmps13
  go_wp2
  generalize hW : (World.alloc _ _) = W1
  have hB := Lib.hid (show Below w.heap.size w W1 by rw [← hW]; exact (Below.refl _ _).alloc (Nat.le_refl _) _)
  have hK : VarAt W1 w.heap.size 54 [.int .i64 f, .int .i64 t] := by rw [← hW]; exact VarAt.new w 54 [.int .i64 f, .int .i64 t]
  have HK := Lib.hid hK
  clear hW hK
  refine wp_region_noPanic ?_
  refine till_start (KeyS w.heap.size f t) 19 (by kernel_rfl) ?_
  have hS := HK.out.drew.keyS
  show AnyTill _ _ _ _ _ _ 20 (Array.replicate 20 false) _ _
  refine till_take 0 (v := ?_) rfl (by kernel_rfl) (fun _ _ _ h => h) (Or.inl ⟨by rfl, ?_⟩) hS ?_
  rotate_left
  focus (intro w' hSw; obtain ⟨hs1, hs2⟩ := hSw; go_simp; try (with_reducible rfl))
  try simp only [Act.put, List.setIfInBounds_toArray, List.set_cons_zero, List.set_cons_succ]
  refine till_take 1 (v := ?_) rfl (by kernel_rfl) (fun _ _ _ h => h) (Or.inl ⟨by rfl, ?_⟩) hS ?_
  rotate_left
  focus (intro w' hSw; obtain ⟨hs1, hs2⟩ := hSw; go_simp; try (with_reducible rfl))
  try simp only [Act.put, List.setIfInBounds_toArray, List.set_cons_zero, List.set_cons_succ]
  refine till_take 2 (v := ?_) rfl (by kernel_rfl) (fun _ _ _ h => h) (Or.inl ⟨by rfl, ?_⟩) hS ?_
  rotate_left
  focus (intro w' hSw; obtain ⟨hs1, hs2⟩ := hSw; go_simp; try (with_reducible rfl))
  try simp only [Act.put, List.setIfInBounds_toArray, List.set_cons_zero, List.set_cons_succ]
  refine till_ready [3] (by kernel_rfl) (TillReady.cons 3 rfl (fun K hK => ?_) TillReady.nil)
  go_simp
  refine (h24 W1.drew).mono ?_
  rintro e w2 ⟨rfl, hg⟩
  have hb2 : Below W1.drew.heap.size W1.drew w2 := by obtain ⟨q, os, rfl⟩ := hg; exact Below.of_grow
  have HB2 := Lib.hid hb2
  have hK2 := VarAt.keep (w := W1.drew) HK.out hb2 HK.out.lt
  clear hg hb2
  have hS := hK2.keyS
  refine (Hid.out hK) _ _ (fun _ => hS) ?_
  try simp only [Act.put, List.setIfInBounds_toArray, List.set_cons_zero, List.set_cons_succ]
  refine till_take 4 (v := ?_) rfl (by kernel_rfl) (fun _ _ _ h => h) (Or.inl ⟨by rfl, ?_⟩) hS ?_
  rotate_left
  focus (intro w' hSw; obtain ⟨hs1, hs2⟩ := hSw; go_simp; try (with_reducible rfl))
  try simp only [Act.put, List.setIfInBounds_toArray, List.set_cons_zero, List.set_cons_succ]
  refine till_take 5 (v := undef) rfl (by kernel_rfl) (fun _ _ _ h => h) (Or.inr ⟨by rfl, rfl⟩) hS ?_
  try simp only [Act.put, List.setIfInBounds_toArray, List.set_cons_zero, List.set_cons_succ]
  refine till_take 6 (v := undef) rfl (by kernel_rfl) (fun _ _ _ h => h) (Or.inr ⟨by rfl, rfl⟩) hS ?_
  try simp only [Act.put, List.setIfInBounds_toArray, List.set_cons_zero, List.set_cons_succ]
  refine till_take 7 (v := undef) rfl (by kernel_rfl) (fun _ _ _ h => h) (Or.inr ⟨by rfl, rfl⟩) hS ?_
  try simp only [Act.put, List.setIfInBounds_toArray, List.set_cons_zero, List.set_cons_succ]
  refine till_take 8 (v := undef) rfl (by kernel_rfl) (fun _ _ _ h => h) (Or.inr ⟨by rfl, rfl⟩) hS ?_
  try simp only [Act.put, List.setIfInBounds_toArray, List.set_cons_zero, List.set_cons_succ]
  refine till_take 9 (v := undef) rfl (by kernel_rfl) (fun _ _ _ h => h) (Or.inr ⟨by rfl, rfl⟩) hS ?_
  try simp only [Act.put, List.setIfInBounds_toArray, List.set_cons_zero, List.set_cons_succ]
  refine till_take 10 (v := undef) rfl (by kernel_rfl) (fun _ _ _ h => h) (Or.inr ⟨by rfl, rfl⟩) hS ?_
  try simp only [Act.put, List.setIfInBounds_toArray, List.set_cons_zero, List.set_cons_succ]
  refine till_take 11 (v := undef) rfl (by kernel_rfl) (fun _ _ _ h => h) (Or.inr ⟨by rfl, rfl⟩) hS ?_
  try simp only [Act.put, List.setIfInBounds_toArray, List.set_cons_zero, List.set_cons_succ]
  refine till_take 12 (v := undef) rfl (by kernel_rfl) (fun _ _ _ h => h) (Or.inr ⟨by rfl, rfl⟩) hS ?_
  try simp only [Act.put, List.setIfInBounds_toArray, List.set_cons_zero, List.set_cons_succ]
  refine till_take 13 (v := undef) rfl (by kernel_rfl) (fun _ _ _ h => h) (Or.inr ⟨by rfl, rfl⟩) hS ?_
  try simp only [Act.put, List.setIfInBounds_toArray, List.set_cons_zero, List.set_cons_succ]
  refine till_take 14 (v := undef) rfl (by kernel_rfl) (fun _ _ _ h => h) (Or.inr ⟨by rfl, rfl⟩) hS ?_
  try simp only [Act.put, List.setIfInBounds_toArray, List.set_cons_zero, List.set_cons_succ]
  refine till_take 15 (v := undef) rfl (by kernel_rfl) (fun _ _ _ h => h) (Or.inr ⟨by rfl, rfl⟩) hS ?_
  try simp only [Act.put, List.setIfInBounds_toArray, List.set_cons_zero, List.set_cons_succ]
  refine till_take 16 (v := undef) rfl (by kernel_rfl) (fun _ _ _ h => h) (Or.inr ⟨by rfl, rfl⟩) hS ?_
  try simp only [Act.put, List.setIfInBounds_toArray, List.set_cons_zero, List.set_cons_succ]
  refine till_take 17 (v := undef) rfl (by kernel_rfl) (fun _ _ _ h => h) (Or.inr ⟨by rfl, rfl⟩) hS ?_
  try simp only [Act.put, List.setIfInBounds_toArray, List.set_cons_zero, List.set_cons_succ]
  refine till_take 18 (v := ?_) rfl (by kernel_rfl) (fun _ _ _ h => h) (Or.inl ⟨by rfl, ?_⟩) hS ?_
  rotate_left
  focus (intro w' hSw; obtain ⟨hs1, hs2⟩ := hSw; go_simp; try (with_reducible rfl))
  try simp only [Act.put, List.setIfInBounds_toArray, List.set_cons_zero, List.set_cons_succ]
  refine till_ready [19] (by kernel_rfl) (TillReady.cons 19 rfl (fun K hK => ?_) TillReady.nil)
  go_simp
  refine (Hid.out hK) _ _ (fun h => absurd rfl h) ?_
  refine till_done (by kernel_rfl) ?_
  refine NoPanic.normal ?_
  go_wp2
  exact ⟨rfl, (hB.out.drew).trans (HB2.out.mono hB.out.size)⟩
theorem one_link {B : Key → List (List Int)} {ks : List Key} (k0 : Key) (h1 : ks.Pairwise ltL) (h2 : ∀ k, k ∈ ks ↔ B k ≠ []) (h3 : ∀ k, k ≠ k0 → B k = []) : total B ks = (B k0).length := by
  rw [total_of h1 h2 [k0] (by simp) (fun k hk => by
    by_cases e : k = k0
    · simp [e]
    · exact absurd (h3 k e) hk)]
  simp [total]
theorem c8 (w : World) : Calls Try.prog 8 #[] w fun e w' => e = .returned (.bool true) ∧ Below w.heap.size w w' := by
  refine gen fun R hR => ?_
  have hn := NetAt.new w (fun j => j < w.heap.size) (fun _ h => h)
  have hb0 : Below w.heap.size w ((w.alloc (.map #[] 0)).alloc (.cells #[.map (some w.heap.size)] 62)) := ((Below.refl _ _).alloc (Nat.le_refl _) _).alloc (by simp) _
  have h10 := c10net hn (fun j h => by simp; omega) 1 2 (.slice none 0 0) [] (RowOf.nil _ _ _) (by simp) (by simp)
  go_enter Try.func8, Try.ntmps8
  go_wp2_with (first
    | (go_at_call 9; (with_reducible refine (c9 _).mono ?_); rintro e w' ⟨rfl, rfl⟩)
    | (go_at_call 10; refine h10.mono ?_; rintro e w1 ⟨rfl, s', hn1, hst⟩)
    | (go_at_call 12; refine (c12 hn1 (by omega)).mono ?_; rintro e w2 ⟨ks, rfl, h1, h2, _, hb2⟩; rw [one_link (1, 2) h1 h2 (fun k hk => setB_other _ _ hk)])
    | fail)
  go_tidy
  refine ⟨by rw [setB_same]; rfl, (hb0.trans (hst.below (b := w.heap.size) ?_ ?_)).trans (hb2.mono ?_)⟩
  · rintro j (rfl | ⟨e, he, _⟩)
    · exact Nat.le_refl _
    · cases he
  · simp; omega
  · exact Nat.le_trans hb0.size hst.frame.size
end Go.Proofs.Ytkkambhkfegodaa
