/- An append of nothing. Conditions: each law's own. -/
import Derived.Test.YtamjdghjaimihaaTails
import Derived.Deep.Upon
namespace Go.Proofs.Ytamjdghjaimihaa
open Go.ChangeShapes Go.WideShapes Go.ChangeAt Go.RowKit

/-- An append of nothing. -/
theorem wpList_append_none {P : Program} (w : World) {ops : Array Oper} {rest : List Oper} {o : Oper} {a : Act} {Q : Exit → Act → World → Prop} (hgd : o.guard = none) (s x : Operand) (t : TypeId)
    (ho : o.op = .call { callee := .builtin .append, args := #[s, x], argTypes := #[t, t] }) (e : TypeId) (i : TypeInfo) (ht : P.underlying t = some (.slice e)) (hi : P.info? e = some i)
    (b : Option Addr) (n c : Nat) (hs : a.eval s = .slice b n c) (hle : n ≤ c) (q : Option Addr) (c2 : Nat) (hx : a.eval x = .slice q 0 c2)
    (h : wpList P ops Q rest (a.put o.dst (.slice b n c)) w) : wpList P ops Q (o :: rest) a w :=
  wpList_plain hgd fun _ hK => by
    have hr := run_append_nothing (P := P) w t t o.type e i ht hi b n c hle (.slice q 0 c2) ⟨.inl ⟨e, ht⟩, fun _ => rfl, by cases q with | none => exact run_firstCells_none (P := P) w _ _ _ _ | some q => exact run_firstCells_some (P := P) w i.size 0 q 0 c2 [] (by simp) (by simp), by cases q with | none => exact run_firstCells_none (P := P) w.drew _ _ _ _ | some q => exact run_firstCells_some (P := P) w.drew i.size 0 q 0 c2 [] (by simp) (by simp), by simp, by simp⟩
    unfold Oper.wp execOp
    simp only [ho, resolve, invoke, builtin, Sem.run_bind, Sem.run_pure, Result.andThen_ok, List.map_toArray, List.map_cons, List.map_nil, hs, hx, hr]
    exact hK _ _ h
theorem owns_cap {w : World} {base : Nat} {e : TypeId} {size n c : Nat} {a : Option Addr} {xs : List Value} (h : w.ownsRow base e size (.slice a n c) n xs) : n ≤ c := by
  obtain ⟨-, ⟨h1, h2⟩ | ⟨g, cap, cur, h1, -, -, h3, -⟩⟩ := h
  · cases h1; exact Nat.le_refl _
  · cases h1; exact h3
end Go.Proofs.Ytamjdghjaimihaa
