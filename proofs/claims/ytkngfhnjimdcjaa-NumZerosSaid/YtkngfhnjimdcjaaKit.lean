/- Small laws for walks: an open post; an append of one new element. Conditions: each law's own. -/
import Derived.WalkKit
import Derived.ProofKit
import Derived.OpenShut
import Derived.WalkLawsBesides
import Derived.WalkSpells
import Derived.WalkSmall
import Derived.Lib.Hide
namespace Go.Proofs.Ytkngfhnjimdcjaa
open Go.ChangeShapes Go.WideShapes Go.ChangeAt Go.RowKit

/-- A contract, proved for every post that holds where the contract does. -/
theorem gen0 {P : Program} {f : FuncId} {args : Array Value} {w : World} {S : Ending → World → Prop}
    (h : ∀ R : Ending → World → Prop, (∀ e w', S e w' → R e w') → Calls P f args w R) : Calls P f args w S := h S (fun _ _ h => h)

theorem ret_true0 {b : Bool} (h : b = true) : Ending.returned (.bool b) = Ending.returned (.bool true) := by rw [h]

/-- The cells of a block that has just been made. -/
theorem cell_new (w : World) (us : List Value) (e : TypeId) (j : Nat) (u : Value) (h : us[j]? = some u) :
    (w.alloc (.cells us.toArray e)).cell? ((⟨w.heap.size, 0, none⟩ : Addr).add j) = some u := by
  rw [Go.WideShapes.add_plain, Nat.zero_add, cell_of_row _ w.heap.size j us.toArray e (0, 0) (heap_alloc_new w _)]
  simpa using h

/-- 'append(v, x)', x one element that has just been laid into a block of its own: what was owned, and x behind it, is owned. -/
theorem append_new {P : Program} (w : World) {ops : Array Oper} {rest : List Oper} {o : Oper} {a : Act} {Q : Exit → Act → World → Prop} (hgd : o.guard = none) (s x : Operand) (t : TypeId)
    (ho : o.op = .call { callee := .builtin .append, args := #[s, x], argTypes := #[t, t] })
    (base : Nat) (e : TypeId) (z : Value) (size bytes : Nat) (ht : P.underlying t = some (.slice e))
    (hinf : (P.info? e).map (fun i => (i.zero, i.size, i.bytes)) = some (some z, size, bytes)) (hzs : z.cells.size = size) (hsz : 0 < size)
    (us : List Value) (hus : us.length = size) (h1 : ∀ u ∈ us, u.oneCell' = true)
    (v : Value) (n : Nat) (xs : List Value) (hs : a.eval s = v) (hown : w.ownsRow base e size v n xs) (hx : a.eval x = .slice (some ⟨w.heap.size, 0, none⟩) 1 1)
    (h63 : n + 1 ≤ maxLen) (hbytes : (n + 1) * bytes ≤ 140737488355328) (hbase : base ≤ w.heap.size)
    (h : ∀ v' w', w'.ownsRow base e size v' (n + 1) (xs ++ us) → w.grownBy w' v.ownBlock → v' ≠ .slice none 0 0 → wpList P ops Q rest (a.put o.dst v') w') :
    wpList P ops Q (o :: rest) a (w.alloc (.cells us.toArray e)) := by
  obtain ⟨i, hi, hz, hsz', hby⟩ := info_parts hinf
  refine wpList_append_own _ hgd s x t ho base e i z size bytes ht hi hz hsz' hby hzs hsz v n xs hs (hown.alloc _) ⟨w.heap.size, 0, none⟩ 1 1 us hx (by rw [hus, Nat.one_mul]) (cell_new w us e) h1 h63 hbytes (by simp; omega) ?_
  intro v' w' h2 h3 h4
  refine h v' w' h2 ?_ ?_
  · refine ⟨h3.os, h3.tape, h3.output, Nat.le_trans (by simp) h3.size, fun k hk hne => ?_⟩
    rw [h3.block k (by simp; omega) hne]
    exact Below.heap_alloc w _ k hk
  · intro hv
    have := (h4.1 hv).2
    omega
end Go.Proofs.Ytkngfhnjimdcjaa
