/- slices.SortFunc at Done; the witness's order. Conditions: each law's own. -/
import Derived.Test.YtmdfilffoomckaaBase
import Derived.Test.YtmdfilffoomckaaLay
namespace Go.Proofs.Ytmdfilffoomckaa
open Go.ChangeShapes Go.WideShapes Go.ChangeAt Go.RowKit

theorem encDone_len (d : DoneD) : (encDone d).length = 6 := rfl
theorem encDone_arr (d : DoneD) : (encDone d).toArray = doneA d := rfl
theorem lays41 (blk off size : Nat) (w : World) : CmpLays Try.prog 41 #[] encDone 6 cmpD blk off size w := fun _ _ _ _ x y => c41 x y _
def Sorted (w : World) (base : Nat) (ds : List DoneD) (v : Value) (e : Ending) (w' : World) : Prop :=
  e = .returned (.tuple #[]) ∧ ∃ ds' : List DoneD, ds'.Perm ds ∧ ds'.Pairwise (fun x y => lessD y x = false) ∧ RowOf encDone 6 w' v ds' ∧ Below base w w'
theorem c40 {w : World} {base : Nat} {v : Value} (ds : List DoneD) (h : w.ownsRow base 50 6 v ds.length (ds.flatMap encDone)) (hn : ds.length < 4611686018427387904) (hb : base ≤ w.heap.size) :
    Calls Try.prog 40 #[v, .func (.func 41) #[] #[]] w (Sorted w base ds v) := by
  obtain ⟨h1, ⟨rfl, h2⟩ | ⟨g, cap, cur, rfl, hbg, hg, hnc, hcm, hcs, ht⟩⟩ := id h
  · obtain rfl : ds = [] := List.eq_nil_of_length_eq_zero h2
    have hcon := AnyF.slices_SortFunc_none sortL none 0 (.func (.func 41) #[] #[]) w
    change Calls Try.prog 40 _ _ _ at hcon
    refine hcon.mono ?_
    rintro e w' ⟨rfl, rfl⟩
    exact ⟨rfl, [], .nil, .nil, RowOf.nil _ _ _, Below.refl _ _⟩
  · obtain ⟨hH, hb2, hlt⟩ := holds_owned encDone_len h
    have eg : ∀ args w, (callFunc 41 args).run Try.prog w = .ok (.enter 41 args) w := enters_of Try.func41 (by kernel_rfl) rfl
    have hcon := AnyQ.slices_SortFunc sortL 6 Try.isAgg50 Try.sizeOf50 encDone encDone_len (fun x v hv => by simp [encDone] at hv; rcases hv with rfl | rfl | rfl | rfl | rfl | rfl <;> rfl) cmpD swoD 41 #[] g 0 cap ds.toArray w eg (lays41 g 0 _ w) hH hlt (by simpa using hn)
    change Calls Try.prog 40 _ _ _ at hcon
    have hs : ds.toArray.size = ds.length := by simp
    refine hcon.mono ?_
    rintro e w' ⟨rfl, d', n, os, hp, hso, rfl⟩
    obtain ⟨p1, _, p2⟩ := hp
    refine ⟨rfl, d'.toList, ?_, ?_, ?_, sorted_below hb2 hb⟩
    · have e1 : (d'.extract 0 ds.toArray.size).toList = d'.toList := by rw [← p1]; simp
      have e2 : (ds.toArray.extract 0 ds.toArray.size).toList = ds := by simp
      rw [e1, e2] at p2; exact p2
    · rw [← p1] at hso
      exact (sorted_pairs hso).imp fun h => by rw [← ltOf_cmpD]; exact h
    · have := sorted_row encDone_len (cap := cap) (n := n) (os := os) hH hlt p1 (by simpa using hnc) hcm
      rw [hs] at this
      exact this
end Go.Proofs.Ytmdfilffoomckaa
