/- Small laws for walks: an open post; an append of one new element. Conditions: each law's own. -/
import Derived.WalkKit
import Derived.ProofKit
import Derived.OpenShut
import Derived.WalkLawsBesides
import Derived.WalkSpells
import Derived.WalkSmall
import Derived.Lib.Hide
namespace Go.Proofs.Ytamjdghjaimihaa
open Go.ChangeShapes Go.WideShapes Go.ChangeAt Go.RowKit

/-- A contract, proved for every post that holds where the contract does. -/
theorem gen {P : Program} {f : FuncId} {args : Array Value} {w : World} {S : Ending → World → Prop}
    (h : ∀ R : Ending → World → Prop, (∀ e w', S e w' → R e w') → Calls P f args w R) : Calls P f args w S := h S (fun _ _ h => h)

theorem ret_true {b : Bool} (h : b = true) : Ending.returned (.bool b) = Ending.returned (.bool true) := by rw [h]

/-- The cells of a block that has just been made. -/
theorem cell_new (w : World) (us : List Value) (e : TypeId) (j : Nat) (u : Value) (h : us[j]? = some u) :
    (w.alloc (.cells us.toArray e)).cell? ((⟨w.heap.size, 0, none⟩ : Addr).add j) = some u := by
  rw [Go.WideShapes.add_plain, Nat.zero_add, cell_of_row _ w.heap.size j us.toArray e (0, 0) (heap_alloc_new w _)]
  simpa using h

/-- 'append(v, x)', x one element that has just been laid into a block of its own: what was owned, and x behind it, is owned. -/
theorem append_new {P : Program} (w : World) {ops : Array Oper} {rest : List Oper} {o : Oper} {a : Act} {Q : Exit → Act → World → Prop} (hgd : o.guard = none) (s x : Operand) (t : TypeId)
    (ho : o.op = .call { callee := .builtin .append, args := #[s, x], argTypes := #[t, t] })
    (base : Nat) (e : TypeId) (z : Value) (size bytes : Nat) (ht : P.underlying t = some (.slice e))
    (hinf : (P.info? e).map (fun i => (i.zero, i.size, i.bytes)) = some (some z, size, bytes)) (hzs : z.cells.size = size) (hsz : 0 < size)
    (us : List Value) (hus : us.length = size) (h1 : ∀ u ∈ us, u.oneCell' = true)
    (v : Value) (n : Nat) (xs : List Value) (hs : a.eval s = v) (hown : w.ownsRow base e size v n xs) (hx : a.eval x = .slice (some ⟨w.heap.size, 0, none⟩) 1 1)
    (h63 : n + 1 ≤ maxLen) (hbytes : (n + 1) * bytes ≤ 140737488355328) (hbase : base ≤ w.heap.size)
    (h : ∀ v' w', w'.ownsRow base e size v' (n + 1) (xs ++ us) → w.grownBy w' v.ownBlock → v' ≠ .slice none 0 0 → wpList P ops Q rest (a.put o.dst v') w') :
    wpList P ops Q (o :: rest) a (w.alloc (.cells us.toArray e)) := by
  obtain ⟨i, hi, hz, hsz', hby⟩ := info_parts hinf
  refine wpList_append_own _ hgd s x t ho base e i z size bytes ht hi hz hsz' hby hzs hsz v n xs hs (hown.alloc _) ⟨w.heap.size, 0, none⟩ 1 1 us hx (by rw [hus, Nat.one_mul]) (cell_new w us e) h1 h63 hbytes (by simp; omega) ?_
  intro v' w' h2 h3 h4
  refine h v' w' h2 ?_ ?_
  · refine ⟨h3.os, h3.tape, h3.output, Nat.le_trans (by simp) h3.size, fun k hk hne => ?_⟩
    rw [h3.block k (by simp; omega) hne]
    exact Below.heap_alloc w _ k hk
  · intro hv
    have := (h4.1 hv).2
    omega

/-- Block b is a variable of type T that holds the cells cs. -/
def VarAt (w : World) (b : Nat) (T : TypeId) (cs : List Value) : Prop := w.heap[b]? = some (.cells cs.toArray T (0, 0))

theorem VarAt.cell {w : World} {b : Nat} {T : TypeId} {cs : List Value} (h : VarAt w b T cs) {j : Nat} {u : Value} (hu : cs[j]? = some u) : w.cell? ⟨b, j, none⟩ = some u := by
  rw [cell_of_row w b j cs.toArray T (0, 0) h]; simpa using hu
theorem VarAt.free {w : World} {b : Nat} {T : TypeId} {cs : List Value} (h : VarAt w b T cs) (j : Nat) : w.frozen? ⟨b, j, none⟩ = false := by
  unfold VarAt at h; simp [World.frozen?, h]
theorem VarAt.lt {w : World} {b : Nat} {T : TypeId} {cs : List Value} (h : VarAt w b T cs) : b < w.heap.size := (Array.getElem?_eq_some_iff.1 h).1
theorem VarAt.new (w : World) (T : TypeId) (cs : List Value) : VarAt (w.alloc (.cells cs.toArray T)) w.heap.size T cs := heap_alloc_new w _
theorem VarAt.alloc {w : World} {b : Nat} {T : TypeId} {cs : List Value} (h : VarAt w b T cs) (o : Obj) : VarAt (w.alloc o) b T cs := by
  unfold VarAt; rw [Below.heap_alloc w o b h.lt]; exact h
theorem VarAt.keep {w w' : World} {B b : Nat} {T : TypeId} {cs : List Value} (h : VarAt w b T cs) (hb : Below B w w') (hB : b < B) : VarAt w' b T cs := by
  unfold VarAt; rw [hb.block b hB]; exact h
theorem VarAt.grown {w w' : World} {row : Option Nat} {b : Nat} {T : TypeId} {cs : List Value} (h : VarAt w b T cs) (hg : w.grownBy w' row) (hr : some b ≠ row) : VarAt w' b T cs := by
  unfold VarAt; rw [hg.block b h.lt hr]; exact h
theorem VarAt.drewN {w : World} {b : Nat} {T : TypeId} {cs : List Value} (h : VarAt w b T cs) (n : Nat) : VarAt (w.drewN n) b T cs := h
theorem VarAt.set {w : World} {b : Nat} {T : TypeId} {cs : List Value} (h : VarAt w b T cs) (j : Nat) (u : Value) : VarAt (w.setCell ⟨b, j, none⟩ u) b T (cs.set j u) := by
  unfold VarAt at *
  show (w.heap.modify b _)[b]? = _
  rw [Array.getElem?_modify, if_pos rfl, h]
  simp
theorem VarAt.other {w : World} {b : Nat} {T : TypeId} {cs : List Value} (h : VarAt w b T cs) {a : Addr} (ha : b ≠ a.block) (u : Value) : VarAt (w.setCell a u) b T cs := by
  unfold VarAt; rw [Below.heap_setCell w a u b ha]; exact h
end Go.Proofs.Ytamjdghjaimihaa
