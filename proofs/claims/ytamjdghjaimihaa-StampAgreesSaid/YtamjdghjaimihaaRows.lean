/-
  No cell of these rows narrows 'for every input' (looked for: loops, veiled, ifaces, maps, wideKeys, modest, calm, conditions, laid).
  DERIVED. THE GIVEN ROWS OF THIS SEAT. 6 by the template 'for every input the law returns true; each argument reads behind the call as it read before'; 0 by the template 'total and deterministic' (their statements: YtamjdghjaimihaaTotals.lean).
  GIVEN WITH THE SEED: the statements are not yours to turn. If you find one false, say at which input.
  Laid BY PROGRAM, IN A SANDBOX (cutbox-rows.mjs): the forced cells as the released guide's own fill.sh prints them over the translation 8aeabe57b27b248b… (all of the seat's roots in one cut). By AI agents, Wed Nov 11 2026. No macro, syntax, notation, axiom, sorry.
-/
import Derived.Test.YtamjdghjaimihaaChecked
import GoSem.Claim
import GoSem.ClaimJoined
import GoSem.ClaimMapViews
import Derived.JoinedTies
import Derived.KernelRfl
namespace Go.Proofs.Ytamjdghjaimihaa
/- THE CELL 'sum', in the pinned program and in every row, IS THE sha256 OF THE DUMP (.gsa) THAT YtamjdghjaimihaaProg.lean LOADS. Nothing in Lean hashes anything: it is a label: what it is worth is what the hold of that sum in a sandbox is worth. -/
noncomputable def Try.pinned : Pinned := { name := "ytamjdghjaimihaa", sum := "8aeabe57b27b248b83ccb0582526ac59e66a023b65f058e53b06136570eca607", checked := Try.checked }
namespace Rows
def none {H : Type} : Left H := { results := [], args := [] }

/-- 'parishlaw15.StampAlone': WHATEVER THE INPUT: true; the input reads as it did. -/
def stampAloneSpec : ChangeSpec := { name := "stampAlone", fn := fun _ => fun
  | [d1, d2] => { results := [.lit (.bool true)], args := [d1, d2] }
  | _ => none }
def stampAloneRow : OpenClaim := { program := "ytamjdghjaimihaa", sum := "8aeabe57b27b248b83ccb0582526ac59e66a023b65f058e53b06136570eca607", func := "parish/parishlaw15.StampAlone", spec := "stampAlone", unfollowed := true, recurses := true, apart := false }
def StampAloneSaid : Prop := stampAloneRow.holds Try.pinned (OpenSpec.ofChange stampAloneSpec)

/-- ITS FALSE NEIGHBOUR: 'it returns false'. Refute it at one input. -/
def stampAloneWrong : ChangeSpec := { name := "stampAlone", fn := fun _ => fun
  | [d1, d2] => { results := [.lit (.bool false)], args := [d1, d2] }
  | _ => none }
def StampAloneWrongFalsely : Prop := stampAloneRow.holds Try.pinned (OpenSpec.ofChange stampAloneWrong)

/-- 'parishlaw15.StampAgrees': WHATEVER THE INPUT: true; the input reads as it did. -/
def stampAgreesSpec : ChangeSpec := { name := "stampAgrees", fn := fun _ => fun
  | [d1, d2, d3] => { results := [.lit (.bool true)], args := [d1, d2, d3] }
  | _ => none }
def stampAgreesRow : OpenClaim := { program := "ytamjdghjaimihaa", sum := "8aeabe57b27b248b83ccb0582526ac59e66a023b65f058e53b06136570eca607", func := "parish/parishlaw15.StampAgrees", spec := "stampAgrees", unfollowed := true, recurses := true, apart := false }
def StampAgreesSaid : Prop := stampAgreesRow.holds Try.pinned (OpenSpec.ofChange stampAgreesSpec)

/-- ITS FALSE NEIGHBOUR: 'it returns false'. Refute it at one input. -/
def stampAgreesWrong : ChangeSpec := { name := "stampAgrees", fn := fun _ => fun
  | [d1, d2, d3] => { results := [.lit (.bool false)], args := [d1, d2, d3] }
  | _ => none }
def StampAgreesWrongFalsely : Prop := stampAgreesRow.holds Try.pinned (OpenSpec.ofChange stampAgreesWrong)

/-- 'parishlaw15.StampRises': WHATEVER THE INPUT: true; the input reads as it did. -/
def stampRisesSpec : ChangeSpec := { name := "stampRises", fn := fun _ => fun
  | [d1, d2] => { results := [.lit (.bool true)], args := [d1, d2] }
  | _ => none }
def stampRisesRow : OpenClaim := { program := "ytamjdghjaimihaa", sum := "8aeabe57b27b248b83ccb0582526ac59e66a023b65f058e53b06136570eca607", func := "parish/parishlaw15.StampRises", spec := "stampRises", unfollowed := true, recurses := true, apart := false }
def StampRisesSaid : Prop := stampRisesRow.holds Try.pinned (OpenSpec.ofChange stampRisesSpec)

/-- ITS FALSE NEIGHBOUR: 'it returns false'. Refute it at one input. -/
def stampRisesWrong : ChangeSpec := { name := "stampRises", fn := fun _ => fun
  | [d1, d2] => { results := [.lit (.bool false)], args := [d1, d2] }
  | _ => none }
def StampRisesWrongFalsely : Prop := stampRisesRow.holds Try.pinned (OpenSpec.ofChange stampRisesWrong)

/-- 'parishlaw15.StampSafe': WHATEVER THE INPUT: true; the input reads as it did. -/
def stampSafeSpec : ChangeSpec := { name := "stampSafe", fn := fun _ => fun
  | [d1, d2, d3] => { results := [.lit (.bool true)], args := [d1, d2, d3] }
  | _ => none }
def stampSafeRow : OpenClaim := { program := "ytamjdghjaimihaa", sum := "8aeabe57b27b248b83ccb0582526ac59e66a023b65f058e53b06136570eca607", func := "parish/parishlaw15.StampSafe", spec := "stampSafe", unfollowed := true, recurses := true, apart := false }
def StampSafeSaid : Prop := stampSafeRow.holds Try.pinned (OpenSpec.ofChange stampSafeSpec)

/-- ITS FALSE NEIGHBOUR: 'it returns false'. Refute it at one input. -/
def stampSafeWrong : ChangeSpec := { name := "stampSafe", fn := fun _ => fun
  | [d1, d2, d3] => { results := [.lit (.bool false)], args := [d1, d2, d3] }
  | _ => none }
def StampSafeWrongFalsely : Prop := stampSafeRow.holds Try.pinned (OpenSpec.ofChange stampSafeWrong)

/-- 'parishlaw15.StampPlays': WHATEVER THE INPUT: true; the input reads as it did. -/
def stampPlaysSpec : ChangeSpec := { name := "stampPlays", fn := fun _ => fun
  | [d1, d2] => { results := [.lit (.bool true)], args := [d1, d2] }
  | _ => none }
def stampPlaysRow : OpenClaim := { program := "ytamjdghjaimihaa", sum := "8aeabe57b27b248b83ccb0582526ac59e66a023b65f058e53b06136570eca607", func := "parish/parishlaw15.StampPlays", spec := "stampPlays", unfollowed := true, recurses := true, apart := false }
def StampPlaysSaid : Prop := stampPlaysRow.holds Try.pinned (OpenSpec.ofChange stampPlaysSpec)

/-- ITS FALSE NEIGHBOUR: 'it returns false'. Refute it at one input. -/
def stampPlaysWrong : ChangeSpec := { name := "stampPlays", fn := fun _ => fun
  | [d1, d2] => { results := [.lit (.bool false)], args := [d1, d2] }
  | _ => none }
def StampPlaysWrongFalsely : Prop := stampPlaysRow.holds Try.pinned (OpenSpec.ofChange stampPlaysWrong)

/-- 'parishlaw15.StampNil': WHATEVER THE INPUT: true; the input reads as it did. -/
def stampNilSpec : ChangeSpec := { name := "stampNil", fn := fun _ => fun
  | [d1, d2] => { results := [.lit (.bool true)], args := [d1, d2] }
  | _ => none }
def stampNilRow : OpenClaim := { program := "ytamjdghjaimihaa", sum := "8aeabe57b27b248b83ccb0582526ac59e66a023b65f058e53b06136570eca607", func := "parish/parishlaw15.StampNil", spec := "stampNil", unfollowed := true, recurses := true, apart := false }
def StampNilSaid : Prop := stampNilRow.holds Try.pinned (OpenSpec.ofChange stampNilSpec)

/-- ITS FALSE NEIGHBOUR: 'it returns false'. Refute it at one input. -/
def stampNilWrong : ChangeSpec := { name := "stampNil", fn := fun _ => fun
  | [d1, d2] => { results := [.lit (.bool false)], args := [d1, d2] }
  | _ => none }
def StampNilWrongFalsely : Prop := stampNilRow.holds Try.pinned (OpenSpec.ofChange stampNilWrong)

/- THE SECOND FORM. 'bulk': how many values and letters a reading holds, each counted each time it is reached (what is shared counts as often as it is met; a slice's spare places count too). A statement '..UptoSaid' is the law's where the arguments, and the package variables that the reading takes, are together of bulk at most 1048576: NARROWER than '..Said'. Prove '..Said' where nothing that the law and all that it calls make is longer than what came in: it says more and counts as full. Else prove '..UptoSaid'. A law counts once. -/
mutual
def uptoBulk {H : Type} : DataW H → Nat
  | .lit (.string bytes) => bytes.length + 1
  | .lit _ => 1
  | .nil => 1
  | .ptr d => uptoBulk d + 1
  | .slice elems spare => uptoBulkAll elems + uptoBulkAll spare + 1
  | .agg parts => uptoBulkAll parts + 1
  | .iface _ d => uptoBulk d + 1
  | .map entries => uptoBulkEntries entries + 1
  | .held _ => 1
def uptoBulkAll {H : Type} : List (DataW H) → Nat
  | [] => 0
  | d :: r => uptoBulk d + uptoBulkAll r
def uptoBulkEntries {H : Type} : List (Lit × DataW H) → Nat
  | [] => 0
  | x :: r => uptoBulkEntry x + uptoBulkEntries r
def uptoBulkEntry {H : Type} : Lit × DataW H → Nat
  | (.string bytes, d) => bytes.length + uptoBulk d + 1
  | (_, d) => uptoBulk d + 1
 end
def uptoSmall : (H : Type) → List (DataW H) → Bool := fun _ ds => decide (uptoBulkAll ds ≤ 1048576)
def OpenSpec.upto (s : _root_.Go.ChangeSpec) : _root_.Go.OpenSpec := { _root_.Go.OpenSpec.ofChange s with cond := some uptoSmall }

/-- 'parishlaw15.StampAlone', WHERE WHAT IT READS IS OF BULK AT MOST 1048576: true; the input reads as it did. -/
def stampAloneUptoRow : OpenClaim := { program := "ytamjdghjaimihaa", sum := "8aeabe57b27b248b83ccb0582526ac59e66a023b65f058e53b06136570eca607", func := "parish/parishlaw15.StampAlone", spec := "stampAlone", unfollowed := true, recurses := true, apart := false, narrowed := true }
def StampAloneUptoSaid : Prop := stampAloneUptoRow.holds Try.pinned (OpenSpec.upto stampAloneSpec)

/-- 'parishlaw15.StampAgrees', WHERE WHAT IT READS IS OF BULK AT MOST 1048576: true; the input reads as it did. -/
def stampAgreesUptoRow : OpenClaim := { program := "ytamjdghjaimihaa", sum := "8aeabe57b27b248b83ccb0582526ac59e66a023b65f058e53b06136570eca607", func := "parish/parishlaw15.StampAgrees", spec := "stampAgrees", unfollowed := true, recurses := true, apart := false, narrowed := true }
def StampAgreesUptoSaid : Prop := stampAgreesUptoRow.holds Try.pinned (OpenSpec.upto stampAgreesSpec)

/-- 'parishlaw15.StampRises', WHERE WHAT IT READS IS OF BULK AT MOST 1048576: true; the input reads as it did. -/
def stampRisesUptoRow : OpenClaim := { program := "ytamjdghjaimihaa", sum := "8aeabe57b27b248b83ccb0582526ac59e66a023b65f058e53b06136570eca607", func := "parish/parishlaw15.StampRises", spec := "stampRises", unfollowed := true, recurses := true, apart := false, narrowed := true }
def StampRisesUptoSaid : Prop := stampRisesUptoRow.holds Try.pinned (OpenSpec.upto stampRisesSpec)

/-- 'parishlaw15.StampSafe', WHERE WHAT IT READS IS OF BULK AT MOST 1048576: true; the input reads as it did. -/
def stampSafeUptoRow : OpenClaim := { program := "ytamjdghjaimihaa", sum := "8aeabe57b27b248b83ccb0582526ac59e66a023b65f058e53b06136570eca607", func := "parish/parishlaw15.StampSafe", spec := "stampSafe", unfollowed := true, recurses := true, apart := false, narrowed := true }
def StampSafeUptoSaid : Prop := stampSafeUptoRow.holds Try.pinned (OpenSpec.upto stampSafeSpec)

/-- 'parishlaw15.StampPlays', WHERE WHAT IT READS IS OF BULK AT MOST 1048576: true; the input reads as it did. -/
def stampPlaysUptoRow : OpenClaim := { program := "ytamjdghjaimihaa", sum := "8aeabe57b27b248b83ccb0582526ac59e66a023b65f058e53b06136570eca607", func := "parish/parishlaw15.StampPlays", spec := "stampPlays", unfollowed := true, recurses := true, apart := false, narrowed := true }
def StampPlaysUptoSaid : Prop := stampPlaysUptoRow.holds Try.pinned (OpenSpec.upto stampPlaysSpec)

/-- 'parishlaw15.StampNil', WHERE WHAT IT READS IS OF BULK AT MOST 1048576: true; the input reads as it did. -/
def stampNilUptoRow : OpenClaim := { program := "ytamjdghjaimihaa", sum := "8aeabe57b27b248b83ccb0582526ac59e66a023b65f058e53b06136570eca607", func := "parish/parishlaw15.StampNil", spec := "stampNil", unfollowed := true, recurses := true, apart := false, narrowed := true }
def StampNilUptoSaid : Prop := stampNilUptoRow.holds Try.pinned (OpenSpec.upto stampNilSpec)

end Rows
end Go.Proofs.Ytamjdghjaimihaa
