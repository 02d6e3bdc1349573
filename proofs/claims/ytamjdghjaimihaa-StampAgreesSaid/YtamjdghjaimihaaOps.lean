/- The acts that came in: how they are read. Conditions: each law's own. -/
import Derived.Test.YtamjdghjaimihaaBoth
import Derived.Test.YtamjdghjaimihaaNil
namespace Go.Proofs.Ytamjdghjaimihaa
open Go.ChangeShapes Go.WideShapes Go.ChangeAt Go.RowKit

theorem opensOps {H : Type} (E : TypeId × Value → H) (w : World) : Opens E Try.prog w 60 fun cs => ∃ v xs, (∀ o ∈ xs, OpOk w o) ∧ cs = [v] ∧ RowOf encOp 6 w v xs :=
  opens_slice (R := OpOk w) Try.underlying60 cells66 (by decide) (fun _ => rfl) ((opensOp E w).mono fun cs ⟨K, S, Q, v, xs, g, st, he, hr, _, _, _, _, _, hst⟩ =>
    ⟨(⟨K, ⟨S, Q⟩, xs, g, st⟩, v), ⟨hr, by simp [Lit.wf, IntKind.min, IntKind.max, IntKind.signed, IntKind.bits] at hst; exact hst.1⟩, he⟩)

end Go.Proofs.Ytamjdghjaimihaa
