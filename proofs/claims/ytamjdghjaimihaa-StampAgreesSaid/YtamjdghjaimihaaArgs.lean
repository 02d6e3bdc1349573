/- What is told of an argument that came in, whatever its type: it can be read; and how that is opened. Conditions: each law's own. -/
import Derived.Test.YtamjdghjaimihaaLists
namespace Go.Proofs.Ytamjdghjaimihaa
open Go.ChangeShapes Go.WideShapes Go.ChangeAt Go.RowKit

/-- The value v can be read at type t in w. -/
def ArgAt (P : Program) (t : TypeId) (v : Value) (w : World) : Prop :=
  (∃ base, Value.okWide P w .any base t v) ∧ ∃ (H : Type) (E : TypeId × Value → H) (n : Nat) (y : DataW H × List MemPlace), DataW.trod E P w 0 (fun _ => true) true n t v.cells.toList = some y

theorem ArgAt.opens {P : Program} {t : TypeId} {v : Value} {w : World} (h : ArgAt P t v w) {φ : List Value → Prop} (ho : ∀ (H : Type) (E : TypeId × Value → H), Opens E P w t φ) : φ v.cells.toList := by
  obtain ⟨_, H, E, n, y, hy⟩ := h
  exact ho H E n _ y hy
theorem ArgAt.int {P : Program} {t : TypeId} {v : Value} {w : World} (h : ArgAt P t v w) {k : IntKind} (ht : P.underlying t = some (.int k)) : ∃ n, v = .int k n ∧ (Lit.int k n).wf = true := by
  obtain ⟨⟨b, hb⟩, _⟩ := id h
  obtain ⟨n, rfl⟩ := okWide_int ht hb
  obtain ⟨n', hw, he⟩ := h.opens fun _ _ => opens_int ht
  simp [Value.cells] at he
  subst he
  exact ⟨n, rfl, hw⟩
theorem ArgAt.bool {P : Program} {t : TypeId} {v : Value} {w : World} (h : ArgAt P t v w) (ht : P.underlying t = some .bool) : ∃ b, v = .bool b := by
  obtain ⟨⟨b, hb⟩, _⟩ := id h
  exact okWide_bool ht hb
theorem ArgAt.slice {P : Program} {t e : TypeId} {v : Value} {w : World} (h : ArgAt P t v w) (ht : P.underlying t = some (.slice e)) {φ : List Value → Prop} (ho : ∀ (H : Type) (E : TypeId × Value → H), Opens E P w t φ) : φ [v] := by
  obtain ⟨⟨b, hb⟩, _⟩ := id h
  obtain ⟨a, n, c, rfl⟩ := okWide_slice ht hb
  exact h.opens ho
theorem ArgAt.struct {P : Program} {t : TypeId} {fs : Array Field} {v : Value} {w : World} (h : ArgAt P t v w) (ht : P.underlying t = some (.struct fs)) {φ : List Value → Prop} (ho : ∀ (H : Type) (E : TypeId × Value → H), Opens E P w t φ) :
    ∃ cs : List Value, v = .agg cs.toArray ∧ cs.length = P.cellsOf t ∧ φ cs := by
  obtain ⟨⟨b, hb⟩, _⟩ := id h
  obtain ⟨cs, rfl, hl⟩ := okWide_struct ht hb
  exact ⟨cs.toList, by simp, by simpa using hl, h.opens ho⟩

/-- A struct whose fields' types and offsets are the list L. -/
theorem opens_fields {H : Type} {E : TypeId × Value → H} {P : Program} {W : World} {t : TypeId} {fs : Array Field} (ht : P.underlying t = some (.struct fs)) {L : List (TypeId × Nat)} (hL : fs.toList.map (fun f => (f.type, f.offset)) = L)
    (φ : Nat → List Value → Prop) (h : ∀ i t o, L[i]? = some (t, o) → Opens E P W t (φ i)) :
    Opens E P W t fun cs => cs.length = P.cellsOf t ∧ ∀ i t o, L[i]? = some (t, o) → φ i ((cs.drop o).take (P.cellsOf t)) := by
  subst hL
  refine (opens_struct ht φ fun i f hf => h i f.type f.offset ?_).mono ?_
  · simp [hf]
  · rintro cs ⟨hl, hc⟩
    refine ⟨hl, fun i t o hi => ?_⟩
    simp at hi
    obtain ⟨f, hf, rfl, rfl⟩ := hi
    exact hc i f hf
end Go.Proofs.Ytamjdghjaimihaa
