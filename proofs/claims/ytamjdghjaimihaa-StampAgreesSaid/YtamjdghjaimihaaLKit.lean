/- What the laws' walks want: both begin empty; which id is less; an act's cells. Conditions: each law's own. -/
import Derived.Test.YtamjdghjaimihaaAct
import Derived.Test.YtamjdghjaimihaaOps
namespace Go.Proofs.Ytamjdghjaimihaa
open Go.ChangeShapes Go.WideShapes Go.ChangeAt Go.RowKit

theorem QAt.new {w : World} {x B : Nat} {g : Int} (hx : VarAt w x 78 [.int .i64 g, .int .u64 0, .slice none 0 0]) (hg : 0 ≤ g ∧ g < 4) (hB : B ≤ x) : QAt w x g ⟨0, []⟩ [] (.slice none 0 0) B where
  box := hx
  row := Tail.nil _ _
  lst := by unfold ord; simp
  ok := QOk.start g
  ones := fun _ h => by cases h
  maps := .nil
  sep := fun _ h => by cases h
  lowX := hB
  lowR := fun _ h => by cases h
  g0 := hg
theorem RefAt.new {w : World} {x B : Nat} {g : Int} (hx : VarAt w x 64 [.int .i64 g, .int .u64 0, .slice none 0 0]) (hg : 0 ≤ g ∧ g < 4) (hB : B ≤ x) : RefAt w x g ⟨0, []⟩ [] (.slice none 0 0) B where
  box := hx
  row := World.ownsRow_nil _ _ _ _
  lst := rfl
  ok := QOk.start g
  gs := fun _ h => by cases h
  lowX := hB
  g0 := hg
theorem Two.new {w : World} {x y B : Nat} {g : Int} (hx : VarAt w x 78 [.int .i64 g, .int .u64 0, .slice none 0 0]) (hy : VarAt w y 64 [.int .i64 g, .int .u64 0, .slice none 0 0]) (hg : 0 ≤ g ∧ g < 4) (hBx : B ≤ x) (hBy : B ≤ y) (hxy : x ≠ y) :
    Two w x y g ⟨0, []⟩ ⟨0, []⟩ [] (.slice none 0 0) [] (.slice none 0 0) B where
  q := QAt.new hx hg hBx
  r := RefAt.new hy hg hBy
  sep := fun k hk hr => by
    have h1 : k = x := by
      rcases hk with (h | h | ⟨_, h, _⟩) | ⟨_, h, _⟩
      · exact h
      · cases h
      · cases h
      · cases h
    have h2 : k = y := by
      rcases hr with (h | h) | ⟨_, h, _⟩
      · exact h
      · cases h
      · cases h
    exact hxy (h1.symm.trans h2)
theorem apt_new {x y c : Nat} (h1 : c ≠ x) (h2 : c ≠ y) : Apt x y [] (.slice none 0 0) [] (.slice none 0 0) c := by
  refine ⟨fun h => ?_, fun h => ?_⟩
  · rcases h with (h | h | ⟨_, h, _⟩) | ⟨_, h, _⟩
    · exact h1 h
    · cases h
    · cases h
    · cases h
  · rcases h with (h | h) | ⟨_, h, _⟩
    · exact h2 h
    · cases h
    · cases h
/-- An act's six cells, somewhere in the row. -/
def OpCellsAt (b o : Nat) (x : OpM) (W : World) : Prop :=
  W.cell? ⟨b, o, none⟩ = some (.int .i64 x.1.kind) ∧ W.cell? ⟨b, o + 1, none⟩ = some (.int .i64 x.1.id.s) ∧ W.cell? ⟨b, o + 2, none⟩ = some (.int .i64 x.1.id.q) ∧ W.cell? ⟨b, o + 3, none⟩ = some x.2 ∧
    W.cell? ⟨b, o + 4, none⟩ = some (.int .i64 x.1.group) ∧ W.cell? ⟨b, o + 5, none⟩ = some (.int .u64 x.1.stamp) ∧ b < W.heap.size
theorem opCellsAt {w w' : World} {b o : Nat} {xs : List OpM} (hc : ∀ i j x u, xs[i]? = some x → (encOp x)[j]? = some u → w.cell? ⟨b, o + i * 6 + j, none⟩ = some u) (hl : b < w.heap.size) (hb : Below w.heap.size w w') {i : Nat} {x : OpM} (hx : xs[i]? = some x) : OpCellsAt b (o + i * 6) x w' := by
  have h := fun j u hu => RowOf.opAt (n := 0) (cap := 0) hc hl hb hx j u hu
  exact ⟨h 0 _ rfl, h 1 _ rfl, h 2 _ rfl, h 3 _ rfl, h 4 _ rfl, h 5 _ rfl, Nat.lt_of_lt_of_le hl hb.size⟩
/-- A list of acts that came in. -/
structure OpsOk (w : World) (v : Value) (xs : List OpM) : Prop where
  row : RowOf encOp 6 w v xs
  ok : ∀ o ∈ xs, OpOk w o
theorem OpsOk.low {w : World} {v : Value} {xs : List OpM} (h : OpsOk w v xs) {o : OpM} (ho : o ∈ xs) : 0 < o.1.groups.length → ∀ k, o.2.ownBlock = some k → k < w.heap.size := fun hp k hk => by
  obtain ⟨a, cap, hv, -, -, h3⟩ := (h.ok o ho).1
  obtain ⟨b, off, rfl, hl, -⟩ := h3 hp
  rw [hv] at hk
  cases hk; exact hl
theorem OpsOk.keep {w w' : World} {v : Value} {xs : List OpM} (h : OpsOk w v xs) (hb : Below w.heap.size w w') : OpsOk w' v xs := ⟨h.row.keep hb, fun o ho => (h.ok o ho).keep hb⟩
end Go.Proofs.Ytamjdghjaimihaa
