/-
  No cell of these rows narrows 'for every input' (looked for: loops, veiled, ifaces, maps, wideKeys, modest, calm, conditions, laid).
  DERIVED. THE GIVEN ROWS OF THIS SEAT. 5 by the template 'for every input the law returns true; each argument reads behind the call as it read before'; 0 by the template 'total and deterministic' (their statements: YtmdfilffoomckaaTotals.lean).
  GIVEN WITH THE SEED: the statements are not yours to turn. If you find one false, say at which input.
  Laid BY PROGRAM, IN A SANDBOX (cutbox-rows.mjs): the forced cells as the released guide's own fill.sh prints them over the translation 5d0eeae5d7964e96… (all of the seat's roots in one cut). By AI agents, Wed Nov 11 2026. No macro, syntax, notation, axiom, sorry.
-/
import Derived.Test.YtmdfilffoomckaaChecked
import GoSem.Claim
import GoSem.ClaimJoined
import GoSem.ClaimMapViews
import Derived.JoinedTies
import Derived.KernelRfl
namespace Go.Proofs.Ytmdfilffoomckaa
/- THE CELL 'sum', in the pinned program and in every row, IS THE sha256 OF THE DUMP (.gsa) THAT YtmdfilffoomckaaProg.lean LOADS. Nothing in Lean hashes anything: it is a label: what it is worth is what the hold of that sum in a sandbox is worth. -/
noncomputable def Try.pinned : Pinned := { name := "ytmdfilffoomckaa", sum := "5d0eeae5d7964e9659ca1f99eca11c25c18009223321f19f2c19037e1eb3022d", checked := Try.checked }
namespace Rows
def none {H : Type} : Left H := { results := [], args := [] }

/-- 'parishlaw22.JudgeOrders': WHATEVER THE INPUT: true; the input reads as it did. -/
def judgeOrdersSpec : ChangeSpec := { name := "judgeOrders", fn := fun _ => fun
  | [d1, d2, d3] => { results := [.lit (.bool true)], args := [d1, d2, d3] }
  | _ => none }
def judgeOrdersRow : OpenClaim := { program := "ytmdfilffoomckaa", sum := "5d0eeae5d7964e9659ca1f99eca11c25c18009223321f19f2c19037e1eb3022d", func := "parish/parishlaw22.JudgeOrders", spec := "judgeOrders", unfollowed := true, recurses := true, plainKeys := false, apart := false }
def JudgeOrdersSaid : Prop := judgeOrdersRow.holds Try.pinned (OpenSpec.ofChange judgeOrdersSpec)

/-- ITS FALSE NEIGHBOUR: 'it returns false'. Refute it at one input. -/
def judgeOrdersWrong : ChangeSpec := { name := "judgeOrders", fn := fun _ => fun
  | [d1, d2, d3] => { results := [.lit (.bool false)], args := [d1, d2, d3] }
  | _ => none }
def JudgeOrdersWrongFalsely : Prop := judgeOrdersRow.holds Try.pinned (OpenSpec.ofChange judgeOrdersWrong)

/-- 'parishlaw22.JudgeEnds': WHATEVER THE INPUT: true; the input reads as it did. -/
def judgeEndsSpec : ChangeSpec := { name := "judgeEnds", fn := fun _ => fun
  | [d1, d2] => { results := [.lit (.bool true)], args := [d1, d2] }
  | _ => none }
def judgeEndsRow : OpenClaim := { program := "ytmdfilffoomckaa", sum := "5d0eeae5d7964e9659ca1f99eca11c25c18009223321f19f2c19037e1eb3022d", func := "parish/parishlaw22.JudgeEnds", spec := "judgeEnds", unfollowed := true, recurses := true, plainKeys := false, apart := false }
def JudgeEndsSaid : Prop := judgeEndsRow.holds Try.pinned (OpenSpec.ofChange judgeEndsSpec)

/-- ITS FALSE NEIGHBOUR: 'it returns false'. Refute it at one input. -/
def judgeEndsWrong : ChangeSpec := { name := "judgeEnds", fn := fun _ => fun
  | [d1, d2] => { results := [.lit (.bool false)], args := [d1, d2] }
  | _ => none }
def JudgeEndsWrongFalsely : Prop := judgeEndsRow.holds Try.pinned (OpenSpec.ofChange judgeEndsWrong)

/-- 'parishlaw22.JudgeTells': WHATEVER THE INPUT: true; the input reads as it did. -/
def judgeTellsSpec : ChangeSpec := { name := "judgeTells", fn := fun _ => fun
  | [d] => { results := [.lit (.bool true)], args := [d] }
  | _ => none }
def judgeTellsRow : OpenClaim := { program := "ytmdfilffoomckaa", sum := "5d0eeae5d7964e9659ca1f99eca11c25c18009223321f19f2c19037e1eb3022d", func := "parish/parishlaw22.JudgeTells", spec := "judgeTells", unfollowed := true, recurses := true, plainKeys := false, apart := false }
def JudgeTellsSaid : Prop := judgeTellsRow.holds Try.pinned (OpenSpec.ofChange judgeTellsSpec)

/-- ITS FALSE NEIGHBOUR: 'it returns false'. Refute it at one input. -/
def judgeTellsWrong : ChangeSpec := { name := "judgeTells", fn := fun _ => fun
  | [d] => { results := [.lit (.bool false)], args := [d] }
  | _ => none }
def JudgeTellsWrongFalsely : Prop := judgeTellsRow.holds Try.pinned (OpenSpec.ofChange judgeTellsWrong)

/-- 'parishlaw22.JudgeLists': WHATEVER THE INPUT: true; the input reads as it did. -/
def judgeListsSpec : ChangeSpec := { name := "judgeLists", fn := fun _ => fun
  | [d1, d2] => { results := [.lit (.bool true)], args := [d1, d2] }
  | _ => none }
def judgeListsRow : OpenClaim := { program := "ytmdfilffoomckaa", sum := "5d0eeae5d7964e9659ca1f99eca11c25c18009223321f19f2c19037e1eb3022d", func := "parish/parishlaw22.JudgeLists", spec := "judgeLists", unfollowed := true, recurses := true, plainKeys := false, apart := false }
def JudgeListsSaid : Prop := judgeListsRow.holds Try.pinned (OpenSpec.ofChange judgeListsSpec)

/-- ITS FALSE NEIGHBOUR: 'it returns false'. Refute it at one input. -/
def judgeListsWrong : ChangeSpec := { name := "judgeLists", fn := fun _ => fun
  | [d1, d2] => { results := [.lit (.bool false)], args := [d1, d2] }
  | _ => none }
def JudgeListsWrongFalsely : Prop := judgeListsRow.holds Try.pinned (OpenSpec.ofChange judgeListsWrong)

/-- 'parishlaw22.JudgeRuns': WHATEVER THE INPUT: true; the input reads as it did. -/
def judgeRunsSpec : ChangeSpec := { name := "judgeRuns", fn := fun _ => fun
  | [d1, d2, d3] => { results := [.lit (.bool true)], args := [d1, d2, d3] }
  | _ => none }
def judgeRunsRow : OpenClaim := { program := "ytmdfilffoomckaa", sum := "5d0eeae5d7964e9659ca1f99eca11c25c18009223321f19f2c19037e1eb3022d", func := "parish/parishlaw22.JudgeRuns", spec := "judgeRuns", unfollowed := true, recurses := true, plainKeys := false, apart := false }
def JudgeRunsSaid : Prop := judgeRunsRow.holds Try.pinned (OpenSpec.ofChange judgeRunsSpec)

/-- ITS FALSE NEIGHBOUR: 'it returns false'. Refute it at one input. -/
def judgeRunsWrong : ChangeSpec := { name := "judgeRuns", fn := fun _ => fun
  | [d1, d2, d3] => { results := [.lit (.bool false)], args := [d1, d2, d3] }
  | _ => none }
def JudgeRunsWrongFalsely : Prop := judgeRunsRow.holds Try.pinned (OpenSpec.ofChange judgeRunsWrong)

/- THE SECOND FORM. 'bulk': how many values and letters a reading holds, each counted each time it is reached (what is shared counts as often as it is met; a slice's spare places count too). A statement '..UptoSaid' is the law's where the arguments, and the package variables that the reading takes, are together of bulk at most 1048576: NARROWER than '..Said'. Prove '..Said' where nothing that the law and all that it calls make is longer than what came in: it says more and counts as full. Else prove '..UptoSaid'. A law counts once. -/
mutual
def uptoBulk {H : Type} : DataW H → Nat
  | .lit (.string bytes) => bytes.length + 1
  | .lit _ => 1
  | .nil => 1
  | .ptr d => uptoBulk d + 1
  | .slice elems spare => uptoBulkAll elems + uptoBulkAll spare + 1
  | .agg parts => uptoBulkAll parts + 1
  | .iface _ d => uptoBulk d + 1
  | .map entries => uptoBulkEntries entries + 1
  | .held _ => 1
def uptoBulkAll {H : Type} : List (DataW H) → Nat
  | [] => 0
  | d :: r => uptoBulk d + uptoBulkAll r
def uptoBulkEntries {H : Type} : List (Lit × DataW H) → Nat
  | [] => 0
  | x :: r => uptoBulkEntry x + uptoBulkEntries r
def uptoBulkEntry {H : Type} : Lit × DataW H → Nat
  | (.string bytes, d) => bytes.length + uptoBulk d + 1
  | (_, d) => uptoBulk d + 1
 end
def uptoSmall : (H : Type) → List (DataW H) → Bool := fun _ ds => decide (uptoBulkAll ds ≤ 1048576)
def OpenSpec.upto (s : _root_.Go.ChangeSpec) : _root_.Go.OpenSpec := { _root_.Go.OpenSpec.ofChange s with cond := some uptoSmall }

/-- 'parishlaw22.JudgeOrders', WHERE WHAT IT READS IS OF BULK AT MOST 1048576: true; the input reads as it did. -/
def judgeOrdersUptoRow : OpenClaim := { program := "ytmdfilffoomckaa", sum := "5d0eeae5d7964e9659ca1f99eca11c25c18009223321f19f2c19037e1eb3022d", func := "parish/parishlaw22.JudgeOrders", spec := "judgeOrders", unfollowed := true, recurses := true, plainKeys := false, apart := false, narrowed := true }
def JudgeOrdersUptoSaid : Prop := judgeOrdersUptoRow.holds Try.pinned (OpenSpec.upto judgeOrdersSpec)

/-- 'parishlaw22.JudgeEnds', WHERE WHAT IT READS IS OF BULK AT MOST 1048576: true; the input reads as it did. -/
def judgeEndsUptoRow : OpenClaim := { program := "ytmdfilffoomckaa", sum := "5d0eeae5d7964e9659ca1f99eca11c25c18009223321f19f2c19037e1eb3022d", func := "parish/parishlaw22.JudgeEnds", spec := "judgeEnds", unfollowed := true, recurses := true, plainKeys := false, apart := false, narrowed := true }
def JudgeEndsUptoSaid : Prop := judgeEndsUptoRow.holds Try.pinned (OpenSpec.upto judgeEndsSpec)

/-- 'parishlaw22.JudgeTells', WHERE WHAT IT READS IS OF BULK AT MOST 1048576: true; the input reads as it did. -/
def judgeTellsUptoRow : OpenClaim := { program := "ytmdfilffoomckaa", sum := "5d0eeae5d7964e9659ca1f99eca11c25c18009223321f19f2c19037e1eb3022d", func := "parish/parishlaw22.JudgeTells", spec := "judgeTells", unfollowed := true, recurses := true, plainKeys := false, apart := false, narrowed := true }
def JudgeTellsUptoSaid : Prop := judgeTellsUptoRow.holds Try.pinned (OpenSpec.upto judgeTellsSpec)

/-- 'parishlaw22.JudgeLists', WHERE WHAT IT READS IS OF BULK AT MOST 1048576: true; the input reads as it did. -/
def judgeListsUptoRow : OpenClaim := { program := "ytmdfilffoomckaa", sum := "5d0eeae5d7964e9659ca1f99eca11c25c18009223321f19f2c19037e1eb3022d", func := "parish/parishlaw22.JudgeLists", spec := "judgeLists", unfollowed := true, recurses := true, plainKeys := false, apart := false, narrowed := true }
def JudgeListsUptoSaid : Prop := judgeListsUptoRow.holds Try.pinned (OpenSpec.upto judgeListsSpec)

/-- 'parishlaw22.JudgeRuns', WHERE WHAT IT READS IS OF BULK AT MOST 1048576: true; the input reads as it did. -/
def judgeRunsUptoRow : OpenClaim := { program := "ytmdfilffoomckaa", sum := "5d0eeae5d7964e9659ca1f99eca11c25c18009223321f19f2c19037e1eb3022d", func := "parish/parishlaw22.JudgeRuns", spec := "judgeRuns", unfollowed := true, recurses := true, plainKeys := false, apart := false, narrowed := true }
def JudgeRunsUptoSaid : Prop := judgeRunsUptoRow.holds Try.pinned (OpenSpec.upto judgeRunsSpec)

end Rows
end Go.Proofs.Ytmdfilffoomckaa
