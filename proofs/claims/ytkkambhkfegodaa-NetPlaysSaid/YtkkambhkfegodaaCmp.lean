/- How links are compared; what a network that is not there answers. Conditions: each law's own. -/
import Derived.Test.YtkkambhkfegodaaNet
import Derived.Lib.SmallJoins
import Derived.Shelf.SlSortCmp.WholeK
namespace Go.Proofs.Ytkkambhkfegodaa
open Go.ChangeShapes Go.WideShapes Go.ChangeAt Go.RowKit

def cmpI (a b : Int) : Int := if a < b then -1 else if b < a then 1 else 0
def cmpL (x y : Key) : Int := if cmpI x.1 y.1 ≠ 0 then cmpI x.1 y.1 else cmpI x.2 y.2
theorem c42 (a : Int) (w : World) : Calls Try.prog 42 #[.int .i64 a] w fun e w' => e = .returned (.bool false) ∧ w' = w := by
  refine gen fun R hR => ?_
  go_enter Try.func42, Try.ntmps42
  go_wp2
theorem c30 (a b : Int) (w : World) : Calls Try.prog 30 #[.int .i64 a, .int .i64 b] w fun e w' => e = .returned (.int .i64 (cmpI a b)) ∧ w' = w := by
  refine gen fun R hR => ?_
  unfold cmpI at hR
  go_enter Try.func30, Try.ntmps30
  go_wp2_with (go_at_call 42; (with_reducible refine (c42 _ _).mono ?_); rintro e w' ⟨rfl, rfl⟩)
  all_goals
    go_tidy
    first | omega | (intros; omega) | simp_all
def OrRel (a b : Int) (i : Value) (w wr : World) : Prop := wr = w ∧ (i = .int .i64 0 ∨ (i = .int .i64 1 ∧ a = 0) ∨ (i = .int .i64 2 ∧ a = 0 ∧ b = 0))
theorem c29 (g c : Nat) (a b : Int) (w : World) (h0 : w.cell? ⟨g, 0, none⟩ = some (.int .i64 a)) (h1 : w.cell? ⟨g, 1, none⟩ = some (.int .i64 b)) : Calls Try.prog 29 #[.slice (some ⟨g, 0, none⟩) 2 c] w fun e w' => e = .returned (.int .i64 (if a ≠ 0 then a else b)) ∧ w' = w := by
  refine gen fun R hR => ?_
  go_enter Try.func29, Try.ntmps29
  go_wp2
  go_loopw [8] (fun i wr => OrRel a b i w wr) (fun i _ => 2 - (intOf i).toNat)
  case atStart => exact ⟨rfl, .inl rfl⟩
  case round =>
    obtain ⟨rfl, rfl | ⟨rfl, rfl⟩ | ⟨rfl, rfl, rfl⟩⟩ := hrel
    · go_wp2
      all_goals
        go_tidy
        rename_i hq
        simp at hq
        first
          | exact ⟨⟨rfl, .inr (.inl ⟨rfl, hq⟩)⟩, by simp [intOf]⟩
          | (intro h; exact absurd h hq)
          | fail
    · go_wp2
      all_goals
        go_tidy
        rename_i hq
        simp at hq
        first
          | exact ⟨⟨rfl, .inr (.inr ⟨rfl, rfl, hq⟩)⟩, by simp [intOf]⟩
          | (intro h; exact absurd h hq)
          | fail
    · go_wp2

def encLL (k : Key) : List Value := [.int .i64 k.1, .int .i64 k.2]
set_option maxHeartbeats 1000000 in
theorem c28 (x y : Key) (W : World) : Calls Try.prog 28 #[.agg #[.int .i64 x.1, .int .i64 x.2], .agg #[.int .i64 y.1, .int .i64 y.2]] W fun e w' => e = .returned (.int .i64 (cmpL x y)) ∧ ∃ q os', w' = Go.Sort.grow (W.drewN q) os' := by
  refine gen fun R hR => ?_
  obtain ⟨x1, x2⟩ := x
  obtain ⟨y1, y2⟩ := y
  have hcl : (if cmpI x1 y1 ≠ 0 then cmpI x1 y1 else cmpI x2 y2) = cmpL (x1, x2) (y1, y2) := rfl
  generalize cmpL (x1, x2) (y1, y2) = res at hcl hR
  go_enter Try.func28, Try.ntmps28
  go_wp2
  generalize hW : (World.alloc _ _) = W1
  have b1 : VarAt W1 W.heap.size 54 [.int .i64 x1, .int .i64 x2] := by rw [← hW]; exact (VarAt.new W 54 [.int .i64 x1, .int .i64 x2]).alloc _
  have b2 : VarAt W1 (W.heap.size + 1) 54 [.int .i64 y1, .int .i64 y2] := by
    rw [← hW]
    have := VarAt.new (W.alloc (.cells #[.int .i64 x1, .int .i64 x2] 54)) 54 [.int .i64 y1, .int .i64 y2]
    rw [World.size_alloc] at this; exact this
  have a1 := b1.cell (j := 0) rfl
  have a2 := b1.cell (j := 1) rfl
  have a3 := b2.cell (j := 0) rfl
  have a4 := b2.cell (j := 1) rfl
  have HW := Lib.hid hW
  clear hW b1 b2
  have h29 : Calls Try.prog 29 #[.slice (some ⟨W1.heap.size, 0, none⟩) 2 2] (W1.alloc (.cells #[.int .i64 (cmpI x1 y1), .int .i64 (cmpI x2 y2)] 3)).drew fun e w' => e = .returned (.int .i64 res) ∧ w' = (W1.alloc (.cells #[.int .i64 (cmpI x1 y1), .int .i64 (cmpI x2 y2)] 3)).drew := by
    have hv := VarAt.new W1 3 [.int .i64 (cmpI x1 y1), .int .i64 (cmpI x2 y2)]
    rw [← hcl]
    exact c29 _ _ _ _ _ (hv.cell (j := 0) (u := .int .i64 (cmpI x1 y1)) rfl) (hv.cell (j := 1) (u := .int .i64 (cmpI x2 y2)) rfl)
  have HC := Lib.hid hcl
  clear hcl
  have h30 := c30 x1 y1
  have h31 := c30 x2 y2
  generalize cmpI x1 y1 = r1 at *
  generalize cmpI x2 y2 = r2 at *
  go_region_held3 (fun w' => w'.cell? ⟨W.heap.size, 0, none⟩ = some (.int .i64 x1) ∧ w'.cell? ⟨W.heap.size, 1, none⟩ = some (.int .i64 x2) ∧ w'.cell? ⟨W.heap.size + 1, 0, none⟩ = some (.int .i64 y1) ∧ w'.cell? ⟨W.heap.size + 1, 1, none⟩ = some (.int .i64 y2))
    (first | go_keep | fail)
    (first
      | (go_at_call 30; (with_reducible refine (h30 _).mono ?_); rintro e w' ⟨rfl, rfl⟩)
      | (go_at_call 30; (with_reducible refine (h31 _).mono ?_); rintro e w' ⟨rfl, rfl⟩)
      | (go_at_call 29; (with_reducible refine h29.mono ?_); rintro e w' ⟨rfl, rfl⟩)
      | fail)
  go_wp2
  refine ⟨rfl, 1, #[.cells #[.int .i64 x1, .int .i64 x2] 54, .cells #[.int .i64 y1, .int .i64 y2] 54, .cells #[.int .i64 r1, .int .i64 r2] 3], ?_⟩
  rw [← HW.out, Go.Sort.alloc_eq_grow, Go.Sort.alloc_eq_grow, Go.Sort.alloc_eq_grow, Go.Sort.grow_grow, Go.Sort.grow_grow]
  rfl
end Go.Proofs.Ytkkambhkfegodaa
