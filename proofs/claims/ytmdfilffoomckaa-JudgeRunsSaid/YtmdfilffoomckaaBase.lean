/- The base of the judge: ids as keys; how they and transactions are compared. Conditions: each law's own. -/
import Derived.Test.YtmdfilffoomckaaRows
import Derived.Test.YtmdfilffoomckaaEq
import Derived.Test.YtmdfilffoomckaaValue
import Derived.Test.YtmdfilffoomckaaMaps2
import Derived.Test.YtmdfilffoomckaaSortKit
import Derived.Test.YtmdfilffoomckaaFresh
import Derived.Test.YtmdfilffoomckaaHeld
import Derived.Laws.StructEq
import Derived.Deep.RegionHeld3
import Derived.Deep.QuietTactic
import Derived.BigQuiet
namespace Go.Proofs.Ytmdfilffoomckaa
open Go.ChangeShapes Go.WideShapes Go.ChangeAt Go.RowKit

theorem ltOf_cmpD (a b : DoneD) : ltOf cmpD a b = lessD a b := by
  unfold ltOf cmpD
  cases lessD a b <;> simp
theorem swoD : Go.Sort.SWO (ltOf cmpD) where
  irrefl x := by rw [ltOf_cmpD, Bool.eq_false_iff]; intro h; exact LtD.irrefl x ((lessD_iff _ _).1 h)
  trans x y z h1 h2 := by rw [ltOf_cmpD, lessD_iff] at *; exact h1.trans h2
  ntrans x y z h1 h2 := by
    rw [ltOf_cmpD, Bool.eq_false_iff, ne_eq, lessD_iff] at *
    unfold LtD LtI at *; omega

theorem law39 : KeyLaw Try.prog 39 encI where
  und := ⟨_, Try.underlying39⟩
  chk := fun e k w => by kernel_rfl
  eq := equal39
  bits := fun a => by
    show Instr.sameBits (9998 + 1 + 1) _ _ = true
    simp [Instr.sameBits, encI]

theorem c42 (a b : IdD) (w : World) : Calls Try.prog 42 #[.agg #[.int .i64 a.s, .int .i64 a.q], .agg #[.int .i64 b.s, .int .i64 b.q]] w fun e w' => e = .returned (.bool (lessId a b)) ∧ ∃ q os, w' = Go.Sort.grow (w.drewN q) os := by
  obtain ⟨s, q⟩ := a
  obtain ⟨u, v⟩ := b
  refine gen fun R hR => ?_
  go_enter Try.func42, Try.ntmps42
  go_wp2
  all_goals
    go_tidy
    refine ⟨?_, 0, _, by rw [Go.Sort.alloc_eq_grow, Go.Sort.alloc_eq_grow, Go.Sort.grow_grow]; rfl⟩
    first
      | (unfold lessId; simp_all; done)
      | (refine congrArg (fun b => Ending.returned (.bool b)) (a₂ := lessId ⟨s, q⟩ ⟨u, v⟩) ?_
         unfold lessId; simp_all)
      | (subst_vars
         refine congrArg (fun b => Ending.returned (.bool b)) (a₂ := lessId ⟨u, q⟩ ⟨u, v⟩) ?_
         unfold lessId; simp)
def doneA (d : DoneD) : Array Value := #[.int .i64 d.txn.id.s, .int .i64 d.txn.id.q, d.txn.rv, d.txn.wv, .bool d.yes, .int .u64 d.stamp]
set_option maxHeartbeats 1000000 in
theorem c41 (a b : DoneD) (w : World) : Calls Try.prog 41 #[.agg (doneA a), .agg (doneA b)] w fun e w' => e = .returned (.int .i64 (cmpD a b)) ∧ ∃ q os, w' = Go.Sort.grow (w.drewN q) os := by
  refine gen fun R hR => ?_
  have h42 := c42 a.txn.id b.txn.id
  have hl : lessD a b = (decide (a.stamp < b.stamp) || (a.stamp == b.stamp && lessId a.txn.id b.txn.id)) := rfl
  have hcm : cmpD a b = if lessD a b then -1 else 1 := rfl
  generalize hL : lessId a.txn.id b.txn.id = less at *
  unfold doneA
  go_enter Try.func41, Try.ntmps41
  go_wp2_with (first
    | (go_at_call 42
       refine (h42 _).mono ?_
       rintro e w' ⟨rfl, q, os, rfl⟩)
    | fail)
  all_goals
    go_tidy
    first
      | (refine ⟨congrArg (fun c => Ending.returned (.int .i64 c)) (a₁ := -1) (a₂ := cmpD a b) ?_, ?_⟩
         · rw [hcm, if_pos (by rw [hl]; simp_all)]
         · first
             | exact ⟨0, _, by rw [Go.Sort.alloc_eq_grow, Go.Sort.alloc_eq_grow, Go.Sort.grow_grow]; rfl⟩
             | exact ⟨q, _, by rw [Go.Sort.alloc_eq_grow, Go.Sort.alloc_eq_grow, Go.Sort.grow_grow]; exact Go.Sort.grow_grow (w.drewN q) _ os⟩)
      | (refine ⟨congrArg (fun c => Ending.returned (.int .i64 c)) (a₁ := 1) (a₂ := cmpD a b) ?_, ?_⟩
         · rw [hcm, if_neg (by rw [hl]; simp_all)]
         · first
             | exact ⟨0, _, by rw [Go.Sort.alloc_eq_grow, Go.Sort.alloc_eq_grow, Go.Sort.grow_grow]; rfl⟩
             | exact ⟨q, _, by rw [Go.Sort.alloc_eq_grow, Go.Sort.alloc_eq_grow, Go.Sort.grow_grow]; exact Go.Sort.grow_grow (w.drewN q) _ os⟩)
      | fail
end Go.Proofs.Ytmdfilffoomckaa
