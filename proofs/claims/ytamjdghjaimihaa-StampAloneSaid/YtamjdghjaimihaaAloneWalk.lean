/- The walk of the law StampAlone. Conditions: each law's own. -/
import Derived.Test.YtamjdghjaimihaaAloneKit
namespace Go.Proofs.Ytamjdghjaimihaa
open Go.ChangeShapes Go.WideShapes Go.ChangeAt Go.RowKit

def encP (x : Int × Int) : List Value := [.int .i64 x.1, .int .i64 x.2]
/-- The loop: k rounds are done, c began. -/
def ARel (w : World) (x : Nat) (g : Int) (len : Nat) (n i : Value) (W : World) : Prop :=
  ∃ (k : Nat) (c : Int) (a : Option Addr) (cp : Nat), k ≤ len ∧ n = .int .u64 c ∧ i = .int .i64 k ∧ 0 ≤ c ∧ c ≤ k ∧ Emp w x g c (.slice a 0 cp) W

set_option maxHeartbeats 4000000 in
set_option maxRecDepth 100000 in
theorem aloneWalk (gr : Int) (a : Option Addr) (len cap : Nat) (ids : List (Int × Int)) (w : World) (hg0 : 0 ≤ gr) (hg1 : gr < 256) (hrow : RowOf encP 2 w (.slice a len cap) ids) :
    Calls Try.prog 3 #[.int .u8 gr, .slice a len cap] w fun e w' => e = .returned (.bool true) ∧ Below w.heap.size w w' := by
  obtain ⟨a', cap', hv, h1, h2, h3⟩ := hrow
  cases hv
  have H3 := Lib.hid h3
  clear h3
  unfold maxLen at h2
  refine gen fun R hR => ?_
  go_enter Try.func3, Try.ntmps3
  go_wp2_with (first
    | (go_at_call 9
       (with_reducible refine (c9 _).mono ?_)
       first
         | (have HBb := HB9
            rintro e w2 ⟨rfl, hb9⟩
            have HB := Lib.hid (HBb.out.trans (hb9.mono HBb.out.size))
            clear hb9)
         | (rintro e w1 ⟨rfl, hb9⟩
            have HB9 := Lib.hid hb9
            clear hb9))
    | (go_at_call 10; refine (c10 (gr % 4) _).mono ?_; rintro e w' (⟨hg, _⟩ | ⟨hg, rfl, rfl⟩); · (exfalso; omega))
    | fail)
  · go_tidy
    exact ⟨rfl, HB.out⟩
  go_loopw [7, 8] (ARel w w1.heap.size (gr % 4) ids.length) (fun _ i _ => ids.length - (intOf i).toNat)
  case atStart =>
    exact ⟨0, 0, none, 0, by omega, rfl, rfl, by omega, by omega, VarAt.new w1 78 [.int .i64 (gr % 4), .int .u64 0, .slice none 0 0], Tail.nil _ _, by simp [Value.ownBlock], by simp [Value.ownBlock], HB9.out.alloc HB9.out.size _, HB9.out.size⟩
  case round =>
    obtain ⟨k, c, va, cp, hk, rfl, rfl, hc0, hck, hE⟩ := hrel
    have HE := Lib.hid hE
    have f1 := hE.1.cell (j := 1) (u := .int .u64 c) rfl
    clear hE
    by_cases hlt : k < ids.length
    · obtain ⟨b, o, rfl, hbl, hcell⟩ := H3.out (by omega)
      have hx : ids[k]? = some ids[k] := by rw [List.getElem?_eq_getElem hlt]
      have HBW := Lib.hid HE.out.2.2.2.2.1
      have r0 : w.cell? ⟨b, o + k * 2, none⟩ = some (.int .i64 ids[k].1) := hcell k 0 _ _ hx rfl
      have r1 : w.cell? ⟨b, o + k * 2 + 1, none⟩ = some (.int .i64 ids[k].2) := hcell k 1 _ _ hx rfl
      generalize ids[k].1 = s at r0
      generalize ids[k].2 = q at r1
      have e0 : wr.cell? ⟨b, o + k * 2, none⟩ = some (.int .i64 s) := by rw [HBW.out.cell (p := ⟨b, o + k * 2, none⟩) hbl]; exact r0
      have e1 : wr.cell? ⟨b, o + k * 2 + 1, none⟩ = some (.int .i64 q) := by rw [HBW.out.cell (p := ⟨b, o + k * 2 + 1, none⟩) hbl]; exact r1
      have R0 := Lib.hid r0
      have R1 := Lib.hid r1
      clear r0 r1
      have lb : b < wr.heap.size := Nat.lt_of_lt_of_le hbl HBW.out.size
      have lb1 := Nat.lt_succ_of_lt lb
      simp only [Nat.succ_eq_add_one] at lb1
      have hbx : b ≠ w1.heap.size := by have := HB9.out.size; omega
      clear hcell hx H3
      by_cases hid : goodId s q = true
      · have H11 := Lib.hid (L11 (HE.out.alloc (.cells #[.int .i64 (gr % 4)] 3)) s q wr.heap.size 0 1 hid ((VarAt.new wr 3 [.int .i64 (gr % 4)]).cell (j := 0) rfl) (by have := HE.out.1.lt; omega) (by omega) (by omega) hc0 (by omega))
        go_wp2_with (first
          | (go_at_call 11
             (with_reducible refine H11.out.mono ?_)
             rintro e w11 ⟨rfl, p, m, gs, v, hO⟩
             have e0 : w11.cell? ⟨b, o + k * 2, none⟩ = some (.int .i64 s) := by rw [hO.2.2.2.2.2.1.cell (p := ⟨b, o + k * 2, none⟩) hbl]; exact R0.out
             have e1 : w11.cell? ⟨b, o + k * 2 + 1, none⟩ = some (.int .i64 q) := by rw [hO.2.2.2.2.2.1.cell (p := ⟨b, o + k * 2 + 1, none⟩) hbl]; exact R1.out
             have lb11 : b < w11.heap.size := Nat.lt_of_lt_of_le hbl hO.2.2.2.2.2.1.size
             have HO := Lib.hid hO
             clear hO)
          | (go_at_call 12; (with_reducible refine (c12 _ _ _).mono ?_); rintro e w' ⟨rfl, rfl⟩)
          | (go_at_call 13
             refine (L13 (HO.out.alloc _)).mono ?_
             rintro e w13 ⟨rfl, hb13⟩
             have hO13 := (HO.out.alloc _).below hb13
             have d0 : w13.cell? ⟨b, o + k * 2, none⟩ = some (.int .i64 s) := by rw [hO13.2.2.2.2.2.1.cell (p := ⟨b, o + k * 2, none⟩) hbl]; exact R0.out
             have d1 : w13.cell? ⟨b, o + k * 2 + 1, none⟩ = some (.int .i64 q) := by rw [hO13.2.2.2.2.2.1.cell (p := ⟨b, o + k * 2 + 1, none⟩) hbl]; exact R1.out
             have lb13 : b < w13.heap.size := Nat.lt_of_lt_of_le hbl hO13.2.2.2.2.2.1.size
             have HO13 := Lib.hid hO13
             have hJx : w13.heap.size ≠ w1.heap.size := by have := hO13.1.lt; omega
             clear hb13 hO13)
          | fail)
        have hn0 : (0 : Int) ≤ (k : Int) := Int.natCast_nonneg _
        have hn1 : (k : Int) < (ids.length : Int) := by omega
        have HN := neq31 s q s q
        simp only [decide_true, Bool.and_self, Bool.not_true] at HN
        have hJ := VarAt.new w13 31 [.int .i64 s, .int .i64 q]
        have lJ : w13.heap.size < (w13.alloc (.cells #[.int .i64 s, .int .i64 q] 31)).heap.size := by simp
        have HJ := Lib.hid hJ
        clear e0 e1 lb lb1 lb11 hJ
        go_region_held3 (fun w' => w'.cell? ⟨w13.heap.size, 0, none⟩ = some (.int .i64 s) ∧ w'.cell? ⟨w13.heap.size, 1, none⟩ = some (.int .i64 q) ∧ w'.cell? ⟨b, o + k * 2, none⟩ = some (.int .i64 s) ∧ w'.cell? ⟨b, o + k * 2 + 1, none⟩ = some (.int .i64 q))
          (first
            | exact ⟨hJ14.cell (j := 0) rfl, hJ14.cell (j := 1) rfl, d140, d141⟩
            | go_keep
            | fail)
          (first
            | (go_at_call 14
               refine (L14 ((HO13.out.alloc _).below (Below.refl _ _).drew)).mono ?_
               rintro e w14 ⟨rfl, a14, cp14, hE14, hk14⟩
               have hJ14 : VarAt w14 w13.heap.size 31 [.int .i64 s, .int .i64 q] := hk14 _ _ _ hJx HJ.out
               have d140 : w14.cell? ⟨b, o + k * 2, none⟩ = some (.int .i64 s) := by rw [hE14.2.2.2.2.1.cell (p := ⟨b, o + k * 2, none⟩) hbl]; exact R0.out
               have d141 : w14.cell? ⟨b, o + k * 2 + 1, none⟩ = some (.int .i64 q) := by rw [hE14.2.2.2.2.1.cell (p := ⟨b, o + k * 2 + 1, none⟩) hbl]; exact R1.out)
            | (go_at_call 15; (refine (c15 _ _ _ _ _ hE14.1).mono ?_); rintro e w' ⟨rfl, rfl⟩)
            | (go_at_call 16; (refine (c16none _ _ _ _ _ _ hE14.1).mono ?_); rintro e w' ⟨rfl, rfl⟩)
            | fail)
        have HE14 := Lib.hid hE14
        clear hE14 hk14 hJ14 d140 d141 HJ HN
        go_wp2
        exact ⟨⟨k + 1, c + 1, a14, cp14, by omega, rfl, rfl, by omega, by omega, HE14.out⟩, by simp [intOf]; omega⟩
      · have hid' : goodId s q = false := by simpa using hid
        have H12 := Lib.hid (c12 s q)
        rw [hid'] at H12
        go_wp2_with (first
          | (go_at_call 11
             refine (c11bad _ s q _ _ hid').mono ?_
             rintro e w11 ⟨rfl, hb11⟩
             have hE11 := (HE.out.alloc _).below hb11
             have e0 : w11.cell? ⟨b, o + k * 2, none⟩ = some (.int .i64 s) := by rw [hE11.2.2.2.2.1.cell (p := ⟨b, o + k * 2, none⟩) hbl]; exact R0.out
             have e1 : w11.cell? ⟨b, o + k * 2 + 1, none⟩ = some (.int .i64 q) := by rw [hE11.2.2.2.2.1.cell (p := ⟨b, o + k * 2 + 1, none⟩) hbl]; exact R1.out
             have HE11 := Lib.hid hE11
             clear hb11 hE11)
          | (go_at_call 12; (with_reducible refine (H12.out _).mono ?_); rintro e w' ⟨rfl, rfl⟩)
          | fail)
        all_goals
          exact ⟨⟨k + 1, c, va, cp, by omega, rfl, rfl, by omega, by omega, HE11.out.alloc _⟩, by simp [intOf]; omega⟩
    · obtain rfl : k = ids.length := by omega
      go_wp2_with (first
        | (go_at_call 17; (refine (c17none _ _ _ _ _ _ HE.out.1).mono ?_); rintro e w' ⟨rfl, rfl⟩)
        | fail)
      all_goals
        go_tidy
        exact ⟨rfl, HE.out.2.2.2.2.1⟩

theorem opensIds {H : Type} (E : TypeId × Value → H) (w : World) : Opens E Try.prog w 22 fun cs => ∃ v xs, (∀ x ∈ xs, True) ∧ cs = [v] ∧ RowOf encP 2 w v xs :=
  opens_slice (R := fun _ => True) Try.underlying22 cells31 (by decide) (fun _ => rfl) ((opensId E w).mono fun _ ⟨s, q, _, _, he⟩ => ⟨(s, q), trivial, he⟩)
theorem aloneArg (v0 v1 : Value) (w : World) (a0 : ArgAt Try.prog 5 v0 w) (a1 : ArgAt Try.prog 22 v1 w) : Calls Try.prog 3 #[v0, v1] w fun e w' => e = .returned (.bool true) ∧ Below w.heap.size w w' := by
  obtain ⟨g, rfl, hg⟩ := a0.int Try.underlying5
  obtain ⟨v, xs, _, hv, hr⟩ := a1.slice Try.underlying22 fun _ E => opensIds E w
  simp at hv
  subst hv
  obtain ⟨a, cap, rfl, _⟩ := id hr
  have hb : 0 ≤ g ∧ g < 256 := by
    simp [Lit.wf, IntKind.min, IntKind.max, IntKind.signed, IntKind.bits] at hg
    omega
  exact aloneWalk g a xs.length cap xs w hb.1 hb.2 hr
end Go.Proofs.Ytamjdghjaimihaa
