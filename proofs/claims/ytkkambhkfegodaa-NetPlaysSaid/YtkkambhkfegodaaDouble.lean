/- Double. Conditions: each law's own. -/
import Derived.Test.YtkkambhkfegodaaTake
namespace Go.Proofs.Ytkkambhkfegodaa
open Go.ChangeShapes Go.WideShapes Go.ChangeAt Go.RowKit

def DoubleS (x r K : Nat) (f t : Int) (w' : World) : Prop := w'.cell? ⟨x, 0, none⟩ = some (.map (some r)) ∧ w'.cell? ⟨K, 0, none⟩ = some (.int .i64 f) ∧ w'.cell? ⟨K, 1, none⟩ = some (.int .i64 t)
section
variable {w : World} {x : Nat} {s : NS} {B : Key → List (List Int)} {Z : Nat → Prop} {N : Nat}
theorem NetAt.doubleS {W : World} {K : Nat} {f t : Int} (h : NetAt W x s B Z N) (hK : VarAt W K 54 [.int .i64 f, .int .i64 t]) : DoubleS x s.r K f t W := ⟨h.box.cell (j := 0) rfl, hK.cell (j := 0) rfl, hK.cell (j := 1) rfl⟩
theorem NetAt.drew {W : World} (h : NetAt W x s B Z N) : NetAt W.drew x s B Z N := h.below (Below.refl _ W).drew
set_option maxHeartbeats 1000000 in
theorem c13none (h : NetAt w x s B Z N) (f t a : Int) (ha : ¬ (0 ≤ a ∧ a < (B (f, t)).length)) :
    Calls Try.prog 13 #[.pointer (some ⟨x, 0, none⟩), .int .i64 f, .int .i64 t, .int .i64 a] w fun e w' => e = .returned (.bool false) ∧ Below w.heap.size w w' := by
  refine gen fun R hR => ?_
  have hd : decide (0 ≤ a ∧ a < (B (f, t)).length) = false := decide_eq_false ha
  have h24 : ∀ W, NetAt W x s B Z N → Calls Try.prog 24 #[.pointer (some ⟨x, 0, none⟩), .agg #[.int .i64 f, .int .i64 t], .int .i64 a] W fun e w' => e = .returned (.bool false) ∧ ∃ q os, w' = Go.Sort.grow (W.drewN q) os := fun W hW => by
    have := c24 hW f t a
    rw [hd] at this
    exact this
  have H := Lib.hid h
  have lx := h.box.lt
  clear h hd
  go_enter Try.func13, Try.ntmps13
  go_wp2
  generalize hW : (World.alloc _ _) = W1
  have hB := Lib.hid (show Below w.heap.size w W1 by rw [← hW]; exact (Below.refl _ _).alloc (Nat.le_refl _) _)
  have HN := Lib.hid (show NetAt W1 x s B Z N by rw [← hW]; exact H.out.alloc _)
  have HK := Lib.hid (show VarAt W1 w.heap.size 54 [.int .i64 f, .int .i64 t] by rw [← hW]; exact VarAt.new w 54 [.int .i64 f, .int .i64 t])
  clear hW
  refine wp_region_noPanic ?_
  refine till_start (DoubleS x s.r w.heap.size f t) 19 (by kernel_rfl) ?_
  have hS := HN.out.drew.doubleS HK.out.drew
  show AnyTill _ _ _ _ _ _ 20 (Array.replicate 20 false) _ _
  refine till_take 0 (v := ?_) rfl (by kernel_rfl) (fun _ _ _ h => h) (Or.inl ⟨by rfl, ?_⟩) hS ?_
  rotate_left
  focus (intro w' hSw; obtain ⟨hs0, hs1, hs2⟩ := hSw; go_simp; try (with_reducible rfl))
  try simp only [Act.put, List.setIfInBounds_toArray, List.set_cons_zero, List.set_cons_succ]
  refine till_take 1 (v := ?_) rfl (by kernel_rfl) (fun _ _ _ h => h) (Or.inl ⟨by rfl, ?_⟩) hS ?_
  rotate_left
  focus (intro w' hSw; obtain ⟨hs0, hs1, hs2⟩ := hSw; go_simp; try (with_reducible rfl))
  try simp only [Act.put, List.setIfInBounds_toArray, List.set_cons_zero, List.set_cons_succ]
  refine till_take 2 (v := ?_) rfl (by kernel_rfl) (fun _ _ _ h => h) (Or.inl ⟨by rfl, ?_⟩) hS ?_
  rotate_left
  focus (intro w' hSw; obtain ⟨hs0, hs1, hs2⟩ := hSw; go_simp; try (with_reducible rfl))
  try simp only [Act.put, List.setIfInBounds_toArray, List.set_cons_zero, List.set_cons_succ]
  refine till_ready [3] (by kernel_rfl) (TillReady.cons 3 rfl (fun K hK => ?_) TillReady.nil)
  go_simp
  refine (h24 W1.drew HN.out.drew).mono ?_
  rintro e w2 ⟨rfl, hg⟩
  have hb2 : Below W1.drew.heap.size W1.drew w2 := by obtain ⟨q, os, rfl⟩ := hg; exact Below.of_grow
  have HB2 := Lib.hid hb2
  have HN2 := Lib.hid (HN.out.drew.below hb2)
  have HK2 := Lib.hid (VarAt.keep (w := W1.drew) HK.out hb2 HK.out.lt)
  clear hg hb2
  have hS := HN2.out.doubleS HK2.out
  refine (Hid.out hK) _ _ (fun _ => hS) ?_
  try simp only [Act.put, List.setIfInBounds_toArray, List.set_cons_zero, List.set_cons_succ]
  refine till_take 4 (v := ?_) rfl (by kernel_rfl) (fun _ _ _ h => h) (Or.inl ⟨by rfl, ?_⟩) hS ?_
  rotate_left
  focus (intro w' hSw; obtain ⟨hs0, hs1, hs2⟩ := hSw; go_simp; try (with_reducible rfl))
  try simp only [Act.put, List.setIfInBounds_toArray, List.set_cons_zero, List.set_cons_succ]
  refine till_take 5 (v := undef) rfl (by kernel_rfl) (fun _ _ _ h => h) (Or.inr ⟨by rfl, rfl⟩) hS ?_
  try simp only [Act.put, List.setIfInBounds_toArray, List.set_cons_zero, List.set_cons_succ]
  refine till_take 6 (v := undef) rfl (by kernel_rfl) (fun _ _ _ h => h) (Or.inr ⟨by rfl, rfl⟩) hS ?_
  try simp only [Act.put, List.setIfInBounds_toArray, List.set_cons_zero, List.set_cons_succ]
  refine till_take 7 (v := undef) rfl (by kernel_rfl) (fun _ _ _ h => h) (Or.inr ⟨by rfl, rfl⟩) hS ?_
  try simp only [Act.put, List.setIfInBounds_toArray, List.set_cons_zero, List.set_cons_succ]
  refine till_take 8 (v := undef) rfl (by kernel_rfl) (fun _ _ _ h => h) (Or.inr ⟨by rfl, rfl⟩) hS ?_
  try simp only [Act.put, List.setIfInBounds_toArray, List.set_cons_zero, List.set_cons_succ]
  refine till_take 9 (v := undef) rfl (by kernel_rfl) (fun _ _ _ h => h) (Or.inr ⟨by rfl, rfl⟩) hS ?_
  try simp only [Act.put, List.setIfInBounds_toArray, List.set_cons_zero, List.set_cons_succ]
  refine till_take 10 (v := undef) rfl (by kernel_rfl) (fun _ _ _ h => h) (Or.inr ⟨by rfl, rfl⟩) hS ?_
  try simp only [Act.put, List.setIfInBounds_toArray, List.set_cons_zero, List.set_cons_succ]
  refine till_take 11 (v := undef) rfl (by kernel_rfl) (fun _ _ _ h => h) (Or.inr ⟨by rfl, rfl⟩) hS ?_
  try simp only [Act.put, List.setIfInBounds_toArray, List.set_cons_zero, List.set_cons_succ]
  refine till_take 12 (v := undef) rfl (by kernel_rfl) (fun _ _ _ h => h) (Or.inr ⟨by rfl, rfl⟩) hS ?_
  try simp only [Act.put, List.setIfInBounds_toArray, List.set_cons_zero, List.set_cons_succ]
  refine till_take 13 (v := undef) rfl (by kernel_rfl) (fun _ _ _ h => h) (Or.inr ⟨by rfl, rfl⟩) hS ?_
  try simp only [Act.put, List.setIfInBounds_toArray, List.set_cons_zero, List.set_cons_succ]
  refine till_take 14 (v := undef) rfl (by kernel_rfl) (fun _ _ _ h => h) (Or.inr ⟨by rfl, rfl⟩) hS ?_
  try simp only [Act.put, List.setIfInBounds_toArray, List.set_cons_zero, List.set_cons_succ]
  refine till_take 15 (v := undef) rfl (by kernel_rfl) (fun _ _ _ h => h) (Or.inr ⟨by rfl, rfl⟩) hS ?_
  try simp only [Act.put, List.setIfInBounds_toArray, List.set_cons_zero, List.set_cons_succ]
  refine till_take 16 (v := undef) rfl (by kernel_rfl) (fun _ _ _ h => h) (Or.inr ⟨by rfl, rfl⟩) hS ?_
  try simp only [Act.put, List.setIfInBounds_toArray, List.set_cons_zero, List.set_cons_succ]
  refine till_take 17 (v := undef) rfl (by kernel_rfl) (fun _ _ _ h => h) (Or.inr ⟨by rfl, rfl⟩) hS ?_
  try simp only [Act.put, List.setIfInBounds_toArray, List.set_cons_zero, List.set_cons_succ]
  refine till_take 18 (v := ?_) rfl (by kernel_rfl) (fun _ _ _ h => h) (Or.inl ⟨by rfl, ?_⟩) hS ?_
  rotate_left
  focus (intro w' hSw; obtain ⟨hs0, hs1, hs2⟩ := hSw; go_simp; try (with_reducible rfl))
  try simp only [Act.put, List.setIfInBounds_toArray, List.set_cons_zero, List.set_cons_succ]
  refine till_ready [19] (by kernel_rfl) (TillReady.cons 19 rfl (fun K hK => ?_) TillReady.nil)
  go_simp
  refine (Hid.out hK) _ _ (fun h => absurd rfl h) ?_
  refine till_done (by kernel_rfl) ?_
  refine NoPanic.normal ?_
  go_wp2
  exact ⟨rfl, hB.out.drew.trans (HB2.out.mono hB.out.size)⟩
set_option maxHeartbeats 2000000 in
theorem c13full (h : NetAt w x s B Z N) (f t : Int) (i : Nat) (hi : i < (B (f, t)).length) (hr : 64 ≤ (B (f, t)).length) :
    Calls Try.prog 13 #[.pointer (some ⟨x, 0, none⟩), .int .i64 f, .int .i64 t, .int .i64 i] w fun e w' => e = .returned (.bool false) ∧ Below w.heap.size w w' := by
  refine gen fun R hR => ?_
  have hd : decide (0 ≤ (i : Int) ∧ (i : Int) < (B (f, t)).length) = true := decide_eq_true (by omega)
  have HR := Lib.hid hr
  clear hr
  have h24 : ∀ W, NetAt W x s B Z N → Calls Try.prog 24 #[.pointer (some ⟨x, 0, none⟩), .agg #[.int .i64 f, .int .i64 t], .int .i64 i] W fun e w' => e = .returned (.bool true) ∧ ∃ q os, w' = Go.Sort.grow (W.drewN q) os := fun W hW => by
    have := c24 hW f t i
    rw [hd] at this
    exact this
  have H := Lib.hid h
  have lx := h.box.lt
  clear h hd
  go_enter Try.func13, Try.ntmps13
  go_wp2
  generalize hW : (World.alloc _ _) = W1
  have hB := Lib.hid (show Below w.heap.size w W1 by rw [← hW]; exact (Below.refl _ _).alloc (Nat.le_refl _) _)
  have HN := Lib.hid (show NetAt W1 x s B Z N by rw [← hW]; exact H.out.alloc _)
  have HK := Lib.hid (show VarAt W1 w.heap.size 54 [.int .i64 f, .int .i64 t] by rw [← hW]; exact VarAt.new w 54 [.int .i64 f, .int .i64 t])
  clear hW
  refine wp_region_noPanic ?_
  refine till_start (DoubleS x s.r w.heap.size f t) 19 (by kernel_rfl) ?_
  have hS := HN.out.drew.doubleS HK.out.drew
  show AnyTill _ _ _ _ _ _ 20 (Array.replicate 20 false) _ _
  refine till_take 0 (v := ?_) rfl (by kernel_rfl) (fun _ _ _ h => h) (Or.inl ⟨by rfl, ?_⟩) hS ?_
  rotate_left
  focus (intro w' hSw; obtain ⟨hs0, hs1, hs2⟩ := hSw; go_simp; try (with_reducible rfl))
  try simp only [Act.put, List.setIfInBounds_toArray, List.set_cons_zero, List.set_cons_succ]
  refine till_take 1 (v := ?_) rfl (by kernel_rfl) (fun _ _ _ h => h) (Or.inl ⟨by rfl, ?_⟩) hS ?_
  rotate_left
  focus (intro w' hSw; obtain ⟨hs0, hs1, hs2⟩ := hSw; go_simp; try (with_reducible rfl))
  try simp only [Act.put, List.setIfInBounds_toArray, List.set_cons_zero, List.set_cons_succ]
  refine till_take 2 (v := ?_) rfl (by kernel_rfl) (fun _ _ _ h => h) (Or.inl ⟨by rfl, ?_⟩) hS ?_
  rotate_left
  focus (intro w' hSw; obtain ⟨hs0, hs1, hs2⟩ := hSw; go_simp; try (with_reducible rfl))
  try simp only [Act.put, List.setIfInBounds_toArray, List.set_cons_zero, List.set_cons_succ]
  refine till_ready [3] (by kernel_rfl) (TillReady.cons 3 rfl (fun K hK => ?_) TillReady.nil)
  go_simp
  refine (h24 W1.drew HN.out.drew).mono ?_
  rintro e w2 ⟨rfl, hg⟩
  have hb2 : Below W1.drew.heap.size W1.drew w2 := by obtain ⟨q, os, rfl⟩ := hg; exact Below.of_grow
  have HB2 := Lib.hid hb2
  have HN2 := Lib.hid (HN.out.drew.below hb2)
  have HK2 := Lib.hid (VarAt.keep (w := W1.drew) HK.out hb2 HK.out.lt)
  clear hg hb2
  have hS := HN2.out.doubleS HK2.out
  refine (Hid.out hK) _ _ (fun _ => hS) ?_
  try simp only [Act.put, List.setIfInBounds_toArray, List.set_cons_zero, List.set_cons_succ]
  refine till_take 4 (v := ?_) rfl (by kernel_rfl) (fun _ _ _ h => h) (Or.inl ⟨by rfl, ?_⟩) hS ?_
  rotate_left
  focus (intro w' hSw; obtain ⟨hs0, hs1, hs2⟩ := hSw; go_simp; try (with_reducible rfl))
  try simp only [Act.put, List.setIfInBounds_toArray, List.set_cons_zero, List.set_cons_succ]
  obtain ⟨va, cp, xs, hv, hT, hp, ho⟩ := HN2.out.look (f, t)
  have hxl : xs.length = (B (f, t)).length := by obtain ⟨_, _, _, h1, _⟩ := id hT; exact h1
  obtain ⟨u, hu⟩ : ∃ u, xs[i]? = some u := ⟨xs[i]'(by omega), List.getElem?_eq_getElem _⟩
  obtain ⟨b, hb⟩ : ∃ b, (B (f, t))[i]? = some b := ⟨(B (f, t))[i], List.getElem?_eq_getElem _⟩
  obtain ⟨g, off, rfl, _, hgl, hcu⟩ := hT.cell hu
  obtain ⟨hru, hou⟩ := hp i u b hu hb
  obtain ⟨ua, uc, rfl, hu1, hu2, hu3⟩ := id hru
  have hiL : (i : Int) < ((B (f, t)).length : Int) := by omega
  have hsm : (B (f, t)).length ≤ 64 := H.out.small _
  have hlk : (Instr.lookup 60 (.map (some s.r)) (.agg #[.int .i64 f, .int .i64 t]) false).run Try.prog w2 = .ok (.slice (some ⟨g, off, none⟩) (B (f, t)).length cp) w2 := by rw [look54 HN2.out.map f t, hv]
  have KR := Lib.hid hru
  have KE := Lib.hid hb
  clear hv hT hp ho hxl hu hru hou hb hu1 hu2 hu3
  generalize hLL : (B (f, t)).length = L at *
  have HLL := Lib.hid hLL
  clear hLL
  refine till_take 5 (v := ?_) rfl (by kernel_rfl) (fun _ _ _ h => h) (Or.inl ⟨by rfl, ?_⟩) hS ?_
  rotate_left
  focus (intro w' hSw; obtain ⟨hs0, hs1, hs2⟩ := hSw; go_simp; try (with_reducible rfl))
  try simp only [Act.put, List.setIfInBounds_toArray, List.set_cons_zero, List.set_cons_succ]
  refine till_take 6 (v := ?_) rfl (by kernel_rfl) (fun _ _ _ h => h) (Or.inl ⟨by rfl, ?_⟩) hS ?_
  rotate_left
  focus (intro w' hSw; obtain ⟨hs0, hs1, hs2⟩ := hSw; go_simp; try (with_reducible rfl))
  try simp only [Act.put, List.setIfInBounds_toArray, List.set_cons_zero, List.set_cons_succ]
  refine till_take 7 (v := ?_) rfl (by kernel_rfl) (fun _ _ _ h => h) (Or.inl ⟨by rfl, ?_⟩) hS ?_
  rotate_left
  focus (intro w' hSw; obtain ⟨hs0, hs1, hs2⟩ := hSw; go_simp; try (with_reducible rfl))
  try simp only [Act.put, List.setIfInBounds_toArray, List.set_cons_zero, List.set_cons_succ]
  refine till_take 8 (v := ?_) rfl (by kernel_rfl) (fun _ _ _ h => h) (Or.inl ⟨by rfl, ?_⟩) hS ?_
  rotate_left
  focus (intro w' hSw; obtain ⟨hs0, hs1, hs2⟩ := hSw; go_simp; try (with_reducible rfl))
  try simp only [Act.put, List.setIfInBounds_toArray, List.set_cons_zero, List.set_cons_succ]
  refine till_take 9 (v := ?_) rfl (by kernel_rfl) (fun _ _ _ h => h) (Or.inl ⟨by rfl, ?_⟩) hS ?_
  rotate_left
  focus (intro w' hSw; obtain ⟨hs0, hs1, hs2⟩ := hSw; go_simp; try (with_reducible rfl))
  try simp only [Act.put, List.setIfInBounds_toArray, List.set_cons_zero, List.set_cons_succ]
  refine till_take 10 (v := ?_) rfl (by kernel_rfl) (fun _ _ _ h => h) (Or.inl ⟨by rfl, ?_⟩) hS ?_
  rotate_left
  focus (intro w' hSw; obtain ⟨hs0, hs1, hs2⟩ := hSw; go_simp; try (with_reducible rfl))
  try simp only [Act.put, List.setIfInBounds_toArray, List.set_cons_zero, List.set_cons_succ]
  refine till_take 11 (v := ?_) rfl (by kernel_rfl) (fun _ _ _ h => h) (Or.inl ⟨by rfl, ?_⟩) hS ?_
  rotate_left
  focus (intro w' hSw; obtain ⟨hs0, hs1, hs2⟩ := hSw; go_simp; try (with_reducible rfl))
  try simp only [Act.put, List.setIfInBounds_toArray, List.set_cons_zero, List.set_cons_succ]
  refine till_take 12 (v := ?_) rfl (by kernel_rfl) (fun _ _ _ h => h) (Or.inl ⟨by rfl, ?_⟩) hS ?_
  rotate_left
  focus (intro w' hSw; obtain ⟨hs0, hs1, hs2⟩ := hSw; go_simp; try (with_reducible rfl))
  try simp only [Act.put, List.setIfInBounds_toArray, List.set_cons_zero, List.set_cons_succ]
  refine till_take 14 (v := ?_) rfl (by kernel_rfl) (fun _ _ _ h => h) (Or.inl ⟨by rfl, ?_⟩) hS ?_
  rotate_left
  focus (intro w' hSw; obtain ⟨hs0, hs1, hs2⟩ := hSw; go_simp; try (with_reducible rfl))
  try simp only [Act.put, List.setIfInBounds_toArray, List.set_cons_zero, List.set_cons_succ]
  refine till_ready [13] (by kernel_rfl) (TillReady.cons 13 rfl (fun K hK => ?_) TillReady.nil)
  go_simp
  have hS := HN2.out.doubleS HK2.out
  refine (Hid.out hK) _ _ (fun _ => hS) ?_
  try simp only [Act.put, List.setIfInBounds_toArray, List.set_cons_zero, List.set_cons_succ]
  refine till_take 15 (v := ?_) rfl (by kernel_rfl) (fun _ _ _ h => h) (Or.inl ⟨by rfl, ?_⟩) hS ?_
  rotate_left
  focus (intro w' hSw; obtain ⟨hs0, hs1, hs2⟩ := hSw; go_simp; try (with_reducible rfl))
  try simp only [Act.put, List.setIfInBounds_toArray, List.set_cons_zero, List.set_cons_succ]
  refine till_ready [16] (by kernel_rfl) (TillReady.cons 16 rfl (fun K hK => ?_) TillReady.nil)
  go_simp
  have hS := HN2.out.doubleS HK2.out
  refine (Hid.out hK) _ _ (fun _ => hS) ?_
  try simp only [Act.put, List.setIfInBounds_toArray, List.set_cons_zero, List.set_cons_succ]
  refine till_ready [17] (by kernel_rfl) (TillReady.cons 17 rfl (fun K hK => ?_) TillReady.nil)
  go_simp
  refine (c10full HN2.out f t _ _ _ (by rw [HLL.out]; exact HR.out)).mono ?_
  rintro e w3 ⟨rfl, hg3⟩
  have hb3 : Below w2.heap.size w2 w3 := by obtain ⟨q, os, rfl⟩ := hg3; exact Below.of_grow
  have HB3 := Lib.hid hb3
  have hS := (HN2.out.below hb3).doubleS (HK2.out.keep hb3 HK2.out.lt)
  refine (Hid.out hK) _ _ (fun _ => hS) ?_
  try simp only [Act.put, List.setIfInBounds_toArray, List.set_cons_zero, List.set_cons_succ]
  refine till_take 18 (v := ?_) rfl (by kernel_rfl) (fun _ _ _ h => h) (Or.inl ⟨by rfl, ?_⟩) hS ?_
  rotate_left
  focus (intro w' hSw; obtain ⟨hs0, hs1, hs2⟩ := hSw; go_simp; try (with_reducible rfl))
  try simp only [Act.put, List.setIfInBounds_toArray, List.set_cons_zero, List.set_cons_succ]
  refine till_ready [19] (by kernel_rfl) (TillReady.cons 19 rfl (fun K hK => ?_) TillReady.nil)
  go_simp
  refine (Hid.out hK) _ _ (fun h => absurd rfl h) ?_
  refine till_done (by kernel_rfl) ?_
  refine NoPanic.normal ?_
  go_wp2
  have q1 : Below w.heap.size w w2 := hB.out.drew.trans (HB2.out.mono hB.out.size)
  exact ⟨rfl, q1.trans (HB3.out.mono q1.size)⟩
def DoublePost (x i : Nat) (s : NS) (B : Key → List (List Int)) (Z : Nat → Prop) (N : Nat) (k : Key) (w : World) (e : Ending) (w' : World) : Prop :=
  e = .returned (.bool true) ∧ ∃ b s', (B k)[i]? = some b ∧ NetAt w' x s' (setB B k (B k ++ [b])) Z (N + 1) ∧ Step w s w' s'
set_option maxHeartbeats 2000000 in
theorem c13room (h : NetAt w x s B Z N) (hZ : ∀ j, Z j → j < w.heap.size) (f t : Int) (i : Nat) (hi : i < (B (f, t)).length) (hr : (B (f, t)).length < 64) (hlen : ∀ b ∈ B (f, t), b.length ≤ 1000) :
    Calls Try.prog 13 #[.pointer (some ⟨x, 0, none⟩), .int .i64 f, .int .i64 t, .int .i64 i] w (DoublePost x i s B Z N (f, t) w) := by
  refine gen (S := DoublePost x i s B Z N (f, t) w) fun R hR => ?_
  have hd : decide (0 ≤ (i : Int) ∧ (i : Int) < (B (f, t)).length) = true := decide_eq_true (by omega)
  have HR := Lib.hid hr
  have HZ := Lib.hid hZ
  have HLE := Lib.hid hlen
  clear hr hZ hlen
  have h24 : ∀ W, NetAt W x s B Z N → Calls Try.prog 24 #[.pointer (some ⟨x, 0, none⟩), .agg #[.int .i64 f, .int .i64 t], .int .i64 i] W fun e w' => e = .returned (.bool true) ∧ ∃ q os, w' = Go.Sort.grow (W.drewN q) os := fun W hW => by
    have := c24 hW f t i
    rw [hd] at this
    exact this
  have H := Lib.hid h
  have lx := h.box.lt
  clear h hd
  go_enter Try.func13, Try.ntmps13
  go_wp2
  generalize hW : (World.alloc _ _) = W1
  have hB := Lib.hid (show Below w.heap.size w W1 by rw [← hW]; exact (Below.refl _ _).alloc (Nat.le_refl _) _)
  have HN := Lib.hid (show NetAt W1 x s B Z N by rw [← hW]; exact H.out.alloc _)
  have HK := Lib.hid (show VarAt W1 w.heap.size 54 [.int .i64 f, .int .i64 t] by rw [← hW]; exact VarAt.new w 54 [.int .i64 f, .int .i64 t])
  clear hW
  refine wp_region_noPanic ?_
  refine till_start (DoubleS x s.r w.heap.size f t) 19 (by kernel_rfl) ?_
  have hS := HN.out.drew.doubleS HK.out.drew
  show AnyTill _ _ _ _ _ _ 20 (Array.replicate 20 false) _ _
  refine till_take 0 (v := ?_) rfl (by kernel_rfl) (fun _ _ _ h => h) (Or.inl ⟨by rfl, ?_⟩) hS ?_
  rotate_left
  focus (intro w' hSw; obtain ⟨hs0, hs1, hs2⟩ := hSw; go_simp; try (with_reducible rfl))
  try simp only [Act.put, List.setIfInBounds_toArray, List.set_cons_zero, List.set_cons_succ]
  refine till_take 1 (v := ?_) rfl (by kernel_rfl) (fun _ _ _ h => h) (Or.inl ⟨by rfl, ?_⟩) hS ?_
  rotate_left
  focus (intro w' hSw; obtain ⟨hs0, hs1, hs2⟩ := hSw; go_simp; try (with_reducible rfl))
  try simp only [Act.put, List.setIfInBounds_toArray, List.set_cons_zero, List.set_cons_succ]
  refine till_take 2 (v := ?_) rfl (by kernel_rfl) (fun _ _ _ h => h) (Or.inl ⟨by rfl, ?_⟩) hS ?_
  rotate_left
  focus (intro w' hSw; obtain ⟨hs0, hs1, hs2⟩ := hSw; go_simp; try (with_reducible rfl))
  try simp only [Act.put, List.setIfInBounds_toArray, List.set_cons_zero, List.set_cons_succ]
  refine till_ready [3] (by kernel_rfl) (TillReady.cons 3 rfl (fun K hK => ?_) TillReady.nil)
  go_simp
  refine (h24 W1.drew HN.out.drew).mono ?_
  rintro e w2 ⟨rfl, hg⟩
  have hb2 : Below W1.drew.heap.size W1.drew w2 := by obtain ⟨q, os, rfl⟩ := hg; exact Below.of_grow
  have HB2 := Lib.hid hb2
  have HN2 := Lib.hid (HN.out.drew.below hb2)
  have HK2 := Lib.hid (VarAt.keep (w := W1.drew) HK.out hb2 HK.out.lt)
  clear hg hb2
  have hS := HN2.out.doubleS HK2.out
  refine (Hid.out hK) _ _ (fun _ => hS) ?_
  try simp only [Act.put, List.setIfInBounds_toArray, List.set_cons_zero, List.set_cons_succ]
  refine till_take 4 (v := ?_) rfl (by kernel_rfl) (fun _ _ _ h => h) (Or.inl ⟨by rfl, ?_⟩) hS ?_
  rotate_left
  focus (intro w' hSw; obtain ⟨hs0, hs1, hs2⟩ := hSw; go_simp; try (with_reducible rfl))
  try simp only [Act.put, List.setIfInBounds_toArray, List.set_cons_zero, List.set_cons_succ]
  obtain ⟨va, cp, xs, hv, hT, hp, ho⟩ := HN2.out.look (f, t)
  have hxl : xs.length = (B (f, t)).length := by obtain ⟨_, _, _, h1, _⟩ := id hT; exact h1
  obtain ⟨u, hu⟩ : ∃ u, xs[i]? = some u := ⟨xs[i]'(by omega), List.getElem?_eq_getElem _⟩
  obtain ⟨b, hb⟩ : ∃ b, (B (f, t))[i]? = some b := ⟨(B (f, t))[i], List.getElem?_eq_getElem _⟩
  obtain ⟨g, off, rfl, _, hgl, hcu⟩ := hT.cell hu
  obtain ⟨hru, hou⟩ := hp i u b hu hb
  obtain ⟨ua, uc, rfl, hu1, hu2, hu3⟩ := id hru
  have hiL : (i : Int) < ((B (f, t)).length : Int) := by omega
  have hsm : (B (f, t)).length ≤ 64 := H.out.small _
  have hlk : (Instr.lookup 60 (.map (some s.r)) (.agg #[.int .i64 f, .int .i64 t]) false).run Try.prog w2 = .ok (.slice (some ⟨g, off, none⟩) (B (f, t)).length cp) w2 := by rw [look54 HN2.out.map f t, hv]
  have KR := Lib.hid hru
  have KE := Lib.hid hb
  clear hv hT hp ho hxl hu hru hou hb hu1 hu2 hu3
  generalize hLL : (B (f, t)).length = L at *
  have HLL := Lib.hid hLL
  clear hLL
  refine till_take 5 (v := ?_) rfl (by kernel_rfl) (fun _ _ _ h => h) (Or.inl ⟨by rfl, ?_⟩) hS ?_
  rotate_left
  focus (intro w' hSw; obtain ⟨hs0, hs1, hs2⟩ := hSw; go_simp; try (with_reducible rfl))
  try simp only [Act.put, List.setIfInBounds_toArray, List.set_cons_zero, List.set_cons_succ]
  refine till_take 6 (v := ?_) rfl (by kernel_rfl) (fun _ _ _ h => h) (Or.inl ⟨by rfl, ?_⟩) hS ?_
  rotate_left
  focus (intro w' hSw; obtain ⟨hs0, hs1, hs2⟩ := hSw; go_simp; try (with_reducible rfl))
  try simp only [Act.put, List.setIfInBounds_toArray, List.set_cons_zero, List.set_cons_succ]
  refine till_take 7 (v := ?_) rfl (by kernel_rfl) (fun _ _ _ h => h) (Or.inl ⟨by rfl, ?_⟩) hS ?_
  rotate_left
  focus (intro w' hSw; obtain ⟨hs0, hs1, hs2⟩ := hSw; go_simp; try (with_reducible rfl))
  try simp only [Act.put, List.setIfInBounds_toArray, List.set_cons_zero, List.set_cons_succ]
  refine till_take 8 (v := ?_) rfl (by kernel_rfl) (fun _ _ _ h => h) (Or.inl ⟨by rfl, ?_⟩) hS ?_
  rotate_left
  focus (intro w' hSw; obtain ⟨hs0, hs1, hs2⟩ := hSw; go_simp; try (with_reducible rfl))
  try simp only [Act.put, List.setIfInBounds_toArray, List.set_cons_zero, List.set_cons_succ]
  refine till_take 9 (v := ?_) rfl (by kernel_rfl) (fun _ _ _ h => h) (Or.inl ⟨by rfl, ?_⟩) hS ?_
  rotate_left
  focus (intro w' hSw; obtain ⟨hs0, hs1, hs2⟩ := hSw; go_simp; try (with_reducible rfl))
  try simp only [Act.put, List.setIfInBounds_toArray, List.set_cons_zero, List.set_cons_succ]
  refine till_take 10 (v := ?_) rfl (by kernel_rfl) (fun _ _ _ h => h) (Or.inl ⟨by rfl, ?_⟩) hS ?_
  rotate_left
  focus (intro w' hSw; obtain ⟨hs0, hs1, hs2⟩ := hSw; go_simp; try (with_reducible rfl))
  try simp only [Act.put, List.setIfInBounds_toArray, List.set_cons_zero, List.set_cons_succ]
  refine till_take 11 (v := ?_) rfl (by kernel_rfl) (fun _ _ _ h => h) (Or.inl ⟨by rfl, ?_⟩) hS ?_
  rotate_left
  focus (intro w' hSw; obtain ⟨hs0, hs1, hs2⟩ := hSw; go_simp; try (with_reducible rfl))
  try simp only [Act.put, List.setIfInBounds_toArray, List.set_cons_zero, List.set_cons_succ]
  refine till_take 12 (v := ?_) rfl (by kernel_rfl) (fun _ _ _ h => h) (Or.inl ⟨by rfl, ?_⟩) hS ?_
  rotate_left
  focus (intro w' hSw; obtain ⟨hs0, hs1, hs2⟩ := hSw; go_simp; try (with_reducible rfl))
  try simp only [Act.put, List.setIfInBounds_toArray, List.set_cons_zero, List.set_cons_succ]
  refine till_take 14 (v := ?_) rfl (by kernel_rfl) (fun _ _ _ h => h) (Or.inl ⟨by rfl, ?_⟩) hS ?_
  rotate_left
  focus (intro w' hSw; obtain ⟨hs0, hs1, hs2⟩ := hSw; go_simp; try (with_reducible rfl))
  try simp only [Act.put, List.setIfInBounds_toArray, List.set_cons_zero, List.set_cons_succ]
  refine till_ready [13] (by kernel_rfl) (TillReady.cons 13 rfl (fun K hK => ?_) TillReady.nil)
  go_simp
  have hS := HN2.out.doubleS HK2.out
  refine (Hid.out hK) _ _ (fun _ => hS) ?_
  try simp only [Act.put, List.setIfInBounds_toArray, List.set_cons_zero, List.set_cons_succ]
  refine till_take 15 (v := ?_) rfl (by kernel_rfl) (fun _ _ _ h => h) (Or.inl ⟨by rfl, ?_⟩) hS ?_
  rotate_left
  focus (intro w' hSw; obtain ⟨hs0, hs1, hs2⟩ := hSw; go_simp; try (with_reducible rfl))
  try simp only [Act.put, List.setIfInBounds_toArray, List.set_cons_zero, List.set_cons_succ]
  refine till_ready [16] (by kernel_rfl) (TillReady.cons 16 rfl (fun K hK => ?_) TillReady.nil)
  go_simp
  have hS := HN2.out.doubleS HK2.out
  refine (Hid.out hK) _ _ (fun _ => hS) ?_
  try simp only [Act.put, List.setIfInBounds_toArray, List.set_cons_zero, List.set_cons_succ]
  refine till_ready [17] (by kernel_rfl) (TillReady.cons 17 rfl (fun K hK => ?_) TillReady.nil)
  go_simp
  have q1 : Below w.heap.size w w2 := hB.out.drew.trans (HB2.out.mono hB.out.size)
  have hbl : b.length ≤ 1000 := HLE.out b (List.mem_of_getElem? KE.out)
  refine (c10net HN2.out (fun j hj => Nat.lt_of_lt_of_le (HZ.out j hj) q1.size) f t _ b KR.out hbl (by rw [HLL.out]; exact HR.out)).mono ?_
  rintro e w3 ⟨rfl, s3, hN3, hst3⟩
  have hK3 : VarAt w3 w.heap.size 54 [.int .i64 f, .int .i64 t] := by
    unfold VarAt
    rw [hst3.frame.block _ HK2.out.lt (fun ho => by have := (H.out.lt _ ho).1; omega)]
    exact HK2.out
  have hr3 : s3.r = s.r := hst3.r
  have H3 := Lib.hid hN3
  have HS3 := Lib.hid hst3
  have HQ1 := Lib.hid q1
  have hS := (by have := hN3.doubleS hK3; rw [hr3] at this; exact this)
  refine (Hid.out hK) _ _ (fun _ => hS) ?_
  try simp only [Act.put, List.setIfInBounds_toArray, List.set_cons_zero, List.set_cons_succ]
  clear hN3 hst3 hr3 hK3 q1
  refine till_take 18 (v := ?_) rfl (by kernel_rfl) (fun _ _ _ h => h) (Or.inl ⟨by rfl, ?_⟩) hS ?_
  rotate_left
  focus (intro w' hSw; obtain ⟨hs0, hs1, hs2⟩ := hSw; go_simp; try (with_reducible rfl))
  try simp only [Act.put, List.setIfInBounds_toArray, List.set_cons_zero, List.set_cons_succ]
  refine till_ready [19] (by kernel_rfl) (TillReady.cons 19 rfl (fun K hK => ?_) TillReady.nil)
  go_simp
  refine (Hid.out hK) _ _ (fun h => absurd rfl h) ?_
  refine till_done (by kernel_rfl) ?_
  refine NoPanic.normal ?_
  go_wp2
  exact ⟨rfl, b, s3, KE.out, H3.out, (Step.of_below HQ1.out s).trans HS3.out⟩
end
end Go.Proofs.Ytkkambhkfegodaa
