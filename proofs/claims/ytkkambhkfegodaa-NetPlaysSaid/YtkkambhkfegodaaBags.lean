/- Are two bags alike? Conditions: each law's own. -/
import Derived.Test.YtkkambhkfegodaaRefDouble
namespace Go.Proofs.Ytkkambhkfegodaa
open Go.ChangeShapes Go.WideShapes Go.ChangeAt Go.RowKit

/-- A slice of packets, to be read. -/
def BagRow (w : World) (v : Value) (ps : List (List Int)) : Prop :=
  ∃ xs : List Value, Tail w 0 v ps.length xs ∧ ∀ (i : Nat) (u : Value) (b : List Int), xs[i]? = some u → ps[i]? = some b → RowOf encB 1 w u b
theorem OutAt.row {w : World} {base : Nat} {v : Value} {ps : List (List Int)} (h : OutAt w base v ps) : BagRow w v ps := by
  obtain ⟨xs, ht, hp, _⟩ := h
  exact ⟨xs, ht.base_le (Nat.zero_le _), fun i u b hu hb => (hp i u b hu hb).1⟩
theorem BagRow.below {w w' : World} {v : Value} {ps : List (List Int)} (h : BagRow w v ps) (hb : Below w.heap.size w w') : BagRow w' v ps := by
  obtain ⟨xs, ht, hp⟩ := h
  exact ⟨xs, ht.below hb (Nat.le_refl _), fun i u b hu hb2 => (hp i u b hu hb2).keep hb⟩
theorem BagRow.at_ {w : World} {a : Option Addr} {n c : Nat} {ps : List (List Int)} (h : BagRow w (.slice a n c) ps) {i : Nat} (hi : i < ps.length) :
    ∃ g off u b, a = some ⟨g, off, none⟩ ∧ g < w.heap.size ∧ w.cell? ⟨g, off + i, none⟩ = some u ∧ ps[i]? = some b ∧ RowOf encB 1 w u b := by
  obtain ⟨xs, ht, hp⟩ := h
  have hl : xs.length = ps.length := by obtain ⟨_, _, _, h1, _⟩ := ht; exact h1
  have hn : n = ps.length := by obtain ⟨_, _, hv, _⟩ := ht; cases hv; rfl
  subst hn
  obtain ⟨u, hu⟩ : ∃ u, xs[i]? = some u := ⟨xs[i]'(by omega), List.getElem?_eq_getElem _⟩
  obtain ⟨b, hb⟩ : ∃ b, ps[i]? = some b := ⟨ps[i], List.getElem?_eq_getElem _⟩
  obtain ⟨g, off, rfl, _, hgl, hcu⟩ := ht.cell hu
  exact ⟨g, off, u, b, rfl, hgl, hcu, hb, hp i u b hu hb⟩
def BagsRel (xs ys : List (List Int)) (w : World) (i : Value) (wr : World) : Prop := ∃ j n : Nat, j ≤ xs.length ∧ i = .int .i64 j ∧ xs.take j = ys.take j ∧ wr = w.drewN n
section
variable {w : World}
set_option maxHeartbeats 4000000 in
theorem c37 {v1 v2 : Value} {xs ys : List (List Int)} (h1 : BagRow w v1 xs) (h2 : BagRow w v2 ys) (hl : xs.length ≤ 100000) (hl2 : ys.length ≤ 100000) (hx : ∀ b ∈ xs, b.length ≤ 1000) (hy : ∀ b ∈ ys, b.length ≤ 1000) :
    Calls Try.prog 37 #[v1, v2] w (SameEnd (decide (xs = ys)) w) := by
  refine gen (S := SameEnd (decide (xs = ys)) w) fun R hR => ?_
  obtain ⟨a1, c1, rfl⟩ : ∃ a c, v1 = .slice a xs.length c := by obtain ⟨_, ⟨a, c, hv, _⟩, _⟩ := id h1; exact ⟨a, c, hv⟩
  obtain ⟨a2, c2, rfl⟩ : ∃ a c, v2 = .slice a ys.length c := by obtain ⟨_, ⟨a, c, hv, _⟩, _⟩ := id h2; exact ⟨a, c, hv⟩
  have H1 := Lib.hid h1
  have H2 := Lib.hid h2
  have HX := Lib.hid hx
  have HY := Lib.hid hy
  clear h1 h2 hx hy
  by_cases hle : xs.length = ys.length
  · go_enter Try.func37, Try.ntmps37
    rw [← hle]
    have HLE := Lib.hid hle
    clear hle
    go_wp2
    go_loopw [5] (fun i wr => BagsRel xs ys w i wr) (fun i _ => xs.length - (intOf i).toNat)
    case atStart => exact ⟨0, 0, by omega, rfl, rfl, rfl⟩
    case round =>
      obtain ⟨j, nd, hj, rfl, htk, rfl⟩ := hrel
      rcases Nat.lt_or_ge j xs.length with hlt | hge
      · obtain ⟨b1, o1, u1, x1, rfl, hb1, hc1, hx1, hr1⟩ := H1.out.at_ hlt
        obtain ⟨b2, o2, u2, x2, rfl, hb2, hc2, hx2, hr2⟩ := H2.out.at_ (i := j) (by have := HLE.out; omega)
        have hjl : (j : Int) < (xs.length : Int) := by omega
        have h33 := c33 (w := (w.drewN nd).drew) (v1 := u1) (v2 := u2) (hr1.keep (below_drewN (Below.refl _ w) (nd + 1))) (hr2.keep (below_drewN (Below.refl _ w) (nd + 1))) (by have := HX.out _ (List.mem_of_getElem? hx1); omega) (by have := HY.out _ (List.mem_of_getElem? hx2); omega)
        obtain ⟨ua1, uc1, rfl, -⟩ := id hr1
        obtain ⟨ua2, uc2, rfl, -⟩ := id hr2
        have HT := Lib.hid htk
        have HU1 := Lib.hid hx1
        have HU2 := Lib.hid hx2
        clear htk hx1 hx2 hr1 hr2
        obtain ⟨W, hW⟩ : ∃ W, W = w.drewN nd := ⟨_, rfl⟩
        rw [← hW] at h33
        rw [← hW]
        have d1 : W.cell? ⟨b1, o1 + j, none⟩ = some (.slice ua1 x1.length uc1) := by rw [hW]; exact hc1
        have d2 : W.cell? ⟨b2, o2 + j, none⟩ = some (.slice ua2 x2.length uc2) := by rw [hW]; exact hc2
        have HWW := Lib.hid hW
        clear hW hc1 hc2
        by_cases hu : x1 = x2
        · rw [decide_eq_true hu] at h33
          have HU := Lib.hid hu
          clear hu
          go_wp2
          go_region_held3 (fun w' => w'.cell? ⟨b1, o1 + j, none⟩ = some (.slice ua1 x1.length uc1) ∧ w'.cell? ⟨b2, o2 + j, none⟩ = some (.slice ua2 x2.length uc2))
            (first | exact ⟨d1, d2⟩ | go_keep | fail)
            (first | (go_at_call 33; refine h33.mono ?_; rintro e w2 ⟨n2, rfl, rfl⟩) | fail)
          go_wp2
          go_tidy
          refine ⟨⟨j + 1, nd + 1 + n2, by omega, rfl, ?_, by rw [HWW.out, World.drewN_drewN, Nat.add_assoc]⟩, by simp [intOf]; omega⟩
          rw [← take_push HU1.out, ← take_push HU2.out, HT.out, HU.out]
        · rw [decide_eq_false hu] at h33
          have HU := Lib.hid hu
          clear hu
          go_wp2
          go_region_held3 (fun w' => w'.cell? ⟨b1, o1 + j, none⟩ = some (.slice ua1 x1.length uc1) ∧ w'.cell? ⟨b2, o2 + j, none⟩ = some (.slice ua2 x2.length uc2))
            (first | exact ⟨d1, d2⟩ | go_keep | fail)
            (first | (go_at_call 33; refine h33.mono ?_; rintro e w2 ⟨n2, rfl, rfl⟩) | fail)
          go_wp2
          go_tidy
          refine ⟨nd + 1 + n2, ?_, by rw [HWW.out, World.drewN_drewN, Nat.add_assoc]⟩
          have : xs ≠ ys := by
            rintro rfl
            have := HU1.out.symm.trans HU2.out
            injection this with this
            exact HU.out this
          rw [decide_eq_false this]; rfl
      · obtain rfl : j = xs.length := by omega
        have hEq : xs = ys := by
          rw [List.take_length, HLE.out, List.take_length] at htk; exact htk
        have HE := Lib.hid hEq
        clear htk hEq
        go_wp2
        go_tidy
        exact ⟨nd, by rw [decide_eq_true HE.out]; rfl, rfl⟩
  · have hle2 : ¬ ((xs.length : Int) = (ys.length : Int)) := by omega
    have hne : xs ≠ ys := fun e => hle (by rw [e])
    have HNE := Lib.hid hne
    clear hne
    go_enter Try.func37, Try.ntmps37
    go_wp2
    go_tidy
    exact ⟨0, by rw [decide_eq_false HNE.out]; rfl, rfl⟩
theorem c19 {v1 v2 : Value} {b : Bool} (h : Calls Try.prog 37 #[v1, v2] w (SameEnd b w)) : Calls Try.prog 19 #[v1, v2] w (SameEnd b w) := by
  refine gen (S := SameEnd b w) fun R hR => ?_
  go_enter Try.func19, Try.ntmps19
  go_wp2_with (first | (go_at_call 37; refine h.mono ?_; rintro e w2 ⟨n2, rfl, rfl⟩) | fail)
  go_tidy
  exact ⟨n2, rfl, rfl⟩
end
end Go.Proofs.Ytkkambhkfegodaa
