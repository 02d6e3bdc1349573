/-
  No cell of these rows narrows 'for every input' (looked for: loops, veiled, ifaces, maps, wideKeys, modest, calm, conditions, laid).
  DERIVED. THE GIVEN ROWS OF THIS SEAT. 6 by the template 'for every input the law returns true; each argument reads behind the call as it read before'; 0 by the template 'total and deterministic' (their statements: YtkngfhnjimdcjaaTotals.lean).
  GIVEN WITH THE SEED: the statements are not yours to turn. If you find one false, say at which input.
  Laid BY PROGRAM, IN A SANDBOX (cutbox-rows.mjs): the forced cells as the released guide's own fill.sh prints them over the translation a880ec3ebf6e7b5e… (all of the seat's roots in one cut). By AI agents, Wed Nov 11 2026. No macro, syntax, notation, axiom, sorry.
-/
import Derived.Test.YtkngfhnjimdcjaaChecked
import GoSem.Claim
import GoSem.ClaimJoined
import GoSem.ClaimMapViews
import Derived.JoinedTies
import Derived.KernelRfl
namespace Go.Proofs.Ytkngfhnjimdcjaa
/- THE CELL 'sum', in the pinned program and in every row, IS THE sha256 OF THE DUMP (.gsa) THAT YtkngfhnjimdcjaaProg.lean LOADS. Nothing in Lean hashes anything: it is a label: what it is worth is what the hold of that sum in a sandbox is worth. -/
noncomputable def Try.pinned : Pinned := { name := "ytkngfhnjimdcjaa", sum := "a880ec3ebf6e7b5eefba998defb0dd2f31da913467890d4a34467d99c262013f", checked := Try.checked }
namespace Rows
def none {H : Type} : Left H := { results := [], args := [] }

/-- 'parishlaw01.NumTells': WHATEVER THE INPUT: true; the input reads as it did. -/
def numTellsSpec : ChangeSpec := { name := "numTells", fn := fun _ => fun
  | [d] => { results := [.lit (.bool true)], args := [d] }
  | _ => none }
def numTellsRow : OpenClaim := { program := "ytkngfhnjimdcjaa", sum := "a880ec3ebf6e7b5eefba998defb0dd2f31da913467890d4a34467d99c262013f", func := "parish/parishlaw01.NumTells", spec := "numTells", inPlace := ["math.Float64frombits", "math.Float64bits"], apart := false }
def NumTellsSaid : Prop := numTellsRow.holds Try.pinned (OpenSpec.ofChange numTellsSpec)

/-- ITS FALSE NEIGHBOUR: 'it returns false'. Refute it at one input. -/
def numTellsWrong : ChangeSpec := { name := "numTells", fn := fun _ => fun
  | [d] => { results := [.lit (.bool false)], args := [d] }
  | _ => none }
def NumTellsWrongFalsely : Prop := numTellsRow.holds Try.pinned (OpenSpec.ofChange numTellsWrong)

/-- 'parishlaw01.NumOrder': WHATEVER THE INPUT: true; the input reads as it did. -/
def numOrderSpec : ChangeSpec := { name := "numOrder", fn := fun _ => fun
  | [d1, d2] => { results := [.lit (.bool true)], args := [d1, d2] }
  | _ => none }
def numOrderRow : OpenClaim := { program := "ytkngfhnjimdcjaa", sum := "a880ec3ebf6e7b5eefba998defb0dd2f31da913467890d4a34467d99c262013f", func := "parish/parishlaw01.NumOrder", spec := "numOrder", inPlace := ["math.Float64frombits", "math.Float64bits"], apart := false }
def NumOrderSaid : Prop := numOrderRow.holds Try.pinned (OpenSpec.ofChange numOrderSpec)

/-- ITS FALSE NEIGHBOUR: 'it returns false'. Refute it at one input. -/
def numOrderWrong : ChangeSpec := { name := "numOrder", fn := fun _ => fun
  | [d1, d2] => { results := [.lit (.bool false)], args := [d1, d2] }
  | _ => none }
def NumOrderWrongFalsely : Prop := numOrderRow.holds Try.pinned (OpenSpec.ofChange numOrderWrong)

/-- 'parishlaw01.NumTotal': WHATEVER THE INPUT: true; the input reads as it did. -/
def numTotalSpec : ChangeSpec := { name := "numTotal", fn := fun _ => fun
  | [d1, d2, d3] => { results := [.lit (.bool true)], args := [d1, d2, d3] }
  | _ => none }
def numTotalRow : OpenClaim := { program := "ytkngfhnjimdcjaa", sum := "a880ec3ebf6e7b5eefba998defb0dd2f31da913467890d4a34467d99c262013f", func := "parish/parishlaw01.NumTotal", spec := "numTotal", inPlace := ["math.Float64frombits", "math.Float64bits"], apart := false }
def NumTotalSaid : Prop := numTotalRow.holds Try.pinned (OpenSpec.ofChange numTotalSpec)

/-- ITS FALSE NEIGHBOUR: 'it returns false'. Refute it at one input. -/
def numTotalWrong : ChangeSpec := { name := "numTotal", fn := fun _ => fun
  | [d1, d2, d3] => { results := [.lit (.bool false)], args := [d1, d2, d3] }
  | _ => none }
def NumTotalWrongFalsely : Prop := numTotalRow.holds Try.pinned (OpenSpec.ofChange numTotalWrong)

/-- 'parishlaw01.NumEdges': WHATEVER THE INPUT: true; the input reads as it did. -/
def numEdgesSpec : ChangeSpec := { name := "numEdges", fn := fun _ => fun
  | [d] => { results := [.lit (.bool true)], args := [d] }
  | _ => none }
def numEdgesRow : OpenClaim := { program := "ytkngfhnjimdcjaa", sum := "a880ec3ebf6e7b5eefba998defb0dd2f31da913467890d4a34467d99c262013f", func := "parish/parishlaw01.NumEdges", spec := "numEdges", inPlace := ["math.Float64frombits", "math.Float64bits"], apart := false }
def NumEdgesSaid : Prop := numEdgesRow.holds Try.pinned (OpenSpec.ofChange numEdgesSpec)

/-- ITS FALSE NEIGHBOUR: 'it returns false'. Refute it at one input. -/
def numEdgesWrong : ChangeSpec := { name := "numEdges", fn := fun _ => fun
  | [d] => { results := [.lit (.bool false)], args := [d] }
  | _ => none }
def NumEdgesWrongFalsely : Prop := numEdgesRow.holds Try.pinned (OpenSpec.ofChange numEdgesWrong)

/-- 'parishlaw01.NumZeros': WHATEVER THE INPUT: true; the input reads as it did. -/
def numZerosSpec : ChangeSpec := { name := "numZeros", fn := fun _ => fun
  | [d] => { results := [.lit (.bool true)], args := [d] }
  | _ => none }
def numZerosRow : OpenClaim := { program := "ytkngfhnjimdcjaa", sum := "a880ec3ebf6e7b5eefba998defb0dd2f31da913467890d4a34467d99c262013f", func := "parish/parishlaw01.NumZeros", spec := "numZeros", inPlace := ["math.Float64frombits", "math.Float64bits"], apart := false }
def NumZerosSaid : Prop := numZerosRow.holds Try.pinned (OpenSpec.ofChange numZerosSpec)

/-- ITS FALSE NEIGHBOUR: 'it returns false'. Refute it at one input. -/
def numZerosWrong : ChangeSpec := { name := "numZeros", fn := fun _ => fun
  | [d] => { results := [.lit (.bool false)], args := [d] }
  | _ => none }
def NumZerosWrongFalsely : Prop := numZerosRow.holds Try.pinned (OpenSpec.ofChange numZerosWrong)

/-- 'parishlaw01.NumSums': WHATEVER THE INPUT: true; the input reads as it did. -/
def numSumsSpec : ChangeSpec := { name := "numSums", fn := fun _ => fun
  | [d] => { results := [.lit (.bool true)], args := [d] }
  | _ => none }
def numSumsRow : OpenClaim := { program := "ytkngfhnjimdcjaa", sum := "a880ec3ebf6e7b5eefba998defb0dd2f31da913467890d4a34467d99c262013f", func := "parish/parishlaw01.NumSums", spec := "numSums", inPlace := ["math.Float64frombits", "math.Float64bits"], apart := false }
def NumSumsSaid : Prop := numSumsRow.holds Try.pinned (OpenSpec.ofChange numSumsSpec)

/-- ITS FALSE NEIGHBOUR: 'it returns false'. Refute it at one input. -/
def numSumsWrong : ChangeSpec := { name := "numSums", fn := fun _ => fun
  | [d] => { results := [.lit (.bool false)], args := [d] }
  | _ => none }
def NumSumsWrongFalsely : Prop := numSumsRow.holds Try.pinned (OpenSpec.ofChange numSumsWrong)

/- THE SECOND FORM. 'bulk': how many values and letters a reading holds, each counted each time it is reached (what is shared counts as often as it is met; a slice's spare places count too). A statement '..UptoSaid' is the law's where the arguments, and the package variables that the reading takes, are together of bulk at most 1048576: NARROWER than '..Said'. Prove '..Said' where nothing that the law and all that it calls make is longer than what came in: it says more and counts as full. Else prove '..UptoSaid'. A law counts once. -/
mutual
def uptoBulk {H : Type} : DataW H → Nat
  | .lit (.string bytes) => bytes.length + 1
  | .lit _ => 1
  | .nil => 1
  | .ptr d => uptoBulk d + 1
  | .slice elems spare => uptoBulkAll elems + uptoBulkAll spare + 1
  | .agg parts => uptoBulkAll parts + 1
  | .iface _ d => uptoBulk d + 1
  | .map entries => uptoBulkEntries entries + 1
  | .held _ => 1
def uptoBulkAll {H : Type} : List (DataW H) → Nat
  | [] => 0
  | d :: r => uptoBulk d + uptoBulkAll r
def uptoBulkEntries {H : Type} : List (Lit × DataW H) → Nat
  | [] => 0
  | x :: r => uptoBulkEntry x + uptoBulkEntries r
def uptoBulkEntry {H : Type} : Lit × DataW H → Nat
  | (.string bytes, d) => bytes.length + uptoBulk d + 1
  | (_, d) => uptoBulk d + 1
 end
def uptoSmall : (H : Type) → List (DataW H) → Bool := fun _ ds => decide (uptoBulkAll ds ≤ 1048576)
def OpenSpec.upto (s : _root_.Go.ChangeSpec) : _root_.Go.OpenSpec := { _root_.Go.OpenSpec.ofChange s with cond := some uptoSmall }

/-- 'parishlaw01.NumTells', WHERE WHAT IT READS IS OF BULK AT MOST 1048576: true; the input reads as it did. -/
def numTellsUptoRow : OpenClaim := { program := "ytkngfhnjimdcjaa", sum := "a880ec3ebf6e7b5eefba998defb0dd2f31da913467890d4a34467d99c262013f", func := "parish/parishlaw01.NumTells", spec := "numTells", inPlace := ["math.Float64frombits", "math.Float64bits"], apart := false, narrowed := true }
def NumTellsUptoSaid : Prop := numTellsUptoRow.holds Try.pinned (OpenSpec.upto numTellsSpec)

/-- 'parishlaw01.NumOrder', WHERE WHAT IT READS IS OF BULK AT MOST 1048576: true; the input reads as it did. -/
def numOrderUptoRow : OpenClaim := { program := "ytkngfhnjimdcjaa", sum := "a880ec3ebf6e7b5eefba998defb0dd2f31da913467890d4a34467d99c262013f", func := "parish/parishlaw01.NumOrder", spec := "numOrder", inPlace := ["math.Float64frombits", "math.Float64bits"], apart := false, narrowed := true }
def NumOrderUptoSaid : Prop := numOrderUptoRow.holds Try.pinned (OpenSpec.upto numOrderSpec)

/-- 'parishlaw01.NumTotal', WHERE WHAT IT READS IS OF BULK AT MOST 1048576: true; the input reads as it did. -/
def numTotalUptoRow : OpenClaim := { program := "ytkngfhnjimdcjaa", sum := "a880ec3ebf6e7b5eefba998defb0dd2f31da913467890d4a34467d99c262013f", func := "parish/parishlaw01.NumTotal", spec := "numTotal", inPlace := ["math.Float64frombits", "math.Float64bits"], apart := false, narrowed := true }
def NumTotalUptoSaid : Prop := numTotalUptoRow.holds Try.pinned (OpenSpec.upto numTotalSpec)

/-- 'parishlaw01.NumEdges', WHERE WHAT IT READS IS OF BULK AT MOST 1048576: true; the input reads as it did. -/
def numEdgesUptoRow : OpenClaim := { program := "ytkngfhnjimdcjaa", sum := "a880ec3ebf6e7b5eefba998defb0dd2f31da913467890d4a34467d99c262013f", func := "parish/parishlaw01.NumEdges", spec := "numEdges", inPlace := ["math.Float64frombits", "math.Float64bits"], apart := false, narrowed := true }
def NumEdgesUptoSaid : Prop := numEdgesUptoRow.holds Try.pinned (OpenSpec.upto numEdgesSpec)

/-- 'parishlaw01.NumZeros', WHERE WHAT IT READS IS OF BULK AT MOST 1048576: true; the input reads as it did. -/
def numZerosUptoRow : OpenClaim := { program := "ytkngfhnjimdcjaa", sum := "a880ec3ebf6e7b5eefba998defb0dd2f31da913467890d4a34467d99c262013f", func := "parish/parishlaw01.NumZeros", spec := "numZeros", inPlace := ["math.Float64frombits", "math.Float64bits"], apart := false, narrowed := true }
def NumZerosUptoSaid : Prop := numZerosUptoRow.holds Try.pinned (OpenSpec.upto numZerosSpec)

/-- 'parishlaw01.NumSums', WHERE WHAT IT READS IS OF BULK AT MOST 1048576: true; the input reads as it did. -/
def numSumsUptoRow : OpenClaim := { program := "ytkngfhnjimdcjaa", sum := "a880ec3ebf6e7b5eefba998defb0dd2f31da913467890d4a34467d99c262013f", func := "parish/parishlaw01.NumSums", spec := "numSums", inPlace := ["math.Float64frombits", "math.Float64bits"], apart := false, narrowed := true }
def NumSumsUptoSaid : Prop := numSumsUptoRow.holds Try.pinned (OpenSpec.upto numSumsSpec)

end Rows
end Go.Proofs.Ytkngfhnjimdcjaa
