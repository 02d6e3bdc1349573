/- The law JudgeRuns: what lies in memory while transactions are run. Conditions: each law's own. -/
import Derived.Test.YtmdfilffoomckaaRunsSpec
import Derived.Test.YtmdfilffoomckaaOpens
import Derived.Test.YtmdfilffoomckaaFew
import Derived.Test.YtmdfilffoomckaaSerial
import Derived.Test.YtmdfilffoomckaaSnaps
import Derived.Deep.DeepCutAuto
import Derived.Deep.CutRange
import Derived.Deep.CutBlock
namespace Go.Proofs.Ytmdfilffoomckaa
open Go.ChangeShapes Go.WideShapes Go.ChangeAt Go.RowKit

structure RunAt (w : World) (last : Int) (vl v1 v2 : Value) (D : List DoneD) (S : List SeenD) (L : List ItemD) (W : World) : Prop where
  st : VarAt W w.heap.size 70 [vl, .int .u64 last, .int .u64 0]
  hi : VarAt W (w.heap.size + 1) 26 [v1, v2, .slice none 0 0]
  rl : W.ownsRow (w.heap.size + 2) 97 5 vl L.length (L.flatMap encItem)
  r1 : W.ownsRow (w.heap.size + 2) 50 6 v1 D.length (D.flatMap encDone)
  r2 : W.ownsRow (w.heap.size + 2) 60 6 v2 S.length (S.flatMap encSeen)
  old : Below w.heap.size w W
theorem var_not_row {W : World} {b : Nat} {T e : TypeId} {cs : List Value} (h : VarAt W b T cs) (hte : T ≠ e) {base size k : Nat} {v : Value} {xs : List Value} (hr : W.ownsRow base e size v k xs) : some b ≠ v.ownBlock := by
  intro hb
  obtain ⟨-, ⟨rfl, -⟩ | ⟨g, cap, cur, rfl, -, hg, -⟩⟩ := hr
  · cases hb
  · injection hb with hb
    simp only at hb
    subst hb
    unfold VarAt at h
    rw [h] at hg
    injection hg with hg
    injection hg with h1 h2
    exact hte h2
section
variable {w W W' : World} {last : Int} {vl v1 v2 v' : Value} {D : List DoneD} {S : List SeenD} {L : List ItemD}
theorem RunAt.below (h : RunAt w last vl v1 v2 D S L W) (hb : Below W.heap.size W W') : RunAt w last vl v1 v2 D S L W' :=
  ⟨h.st.keep hb h.st.lt, h.hi.keep hb h.hi.lt, ownsRow_below h.rl hb, ownsRow_below h.r1 hb, ownsRow_below h.r2 hb, h.old.trans (hb.mono h.old.size)⟩
theorem RunAt.start (w : World) : RunAt w 0 (.slice none 0 0) (.slice none 0 0) (.slice none 0 0) [] [] [] ((w.alloc (.cells #[.slice none 0 0, .int .u64 0, .int .u64 0] 70)).alloc (.cells #[.slice none 0 0, .slice none 0 0, .slice none 0 0] 26)) := by
  refine ⟨(VarAt.new w 70 [.slice none 0 0, .int .u64 0, .int .u64 0]).alloc _, ?_, World.ownsRow_nil _ _ _ _, World.ownsRow_nil _ _ _ _, World.ownsRow_nil _ _ _ _, ((Below.refl _ _).alloc (Nat.le_refl _) _).alloc (by simp) _⟩
  have := VarAt.new (w.alloc (.cells #[.slice none 0 0, .int .u64 0, .int .u64 0] 70)) 26 [.slice none 0 0, .slice none 0 0, .slice none 0 0]
  simpa using this
theorem RunAt.size (h : RunAt w last vl v1 v2 D S L W) : w.heap.size + 2 ≤ W.heap.size := h.hi.lt
theorem RunAt.grown (h : RunAt w last vl v1 v2 D S L W) {row : Option Nat} (hg : W.grownBy W' row) (hr : ∀ k, row = some k → w.heap.size + 2 ≤ k) :
    VarAt W' w.heap.size 70 [vl, .int .u64 last, .int .u64 0] ∧ VarAt W' (w.heap.size + 1) 26 [v1, v2, .slice none 0 0] ∧ Below w.heap.size w W' := by
  refine ⟨h.st.grown hg fun e => ?_, h.hi.grown hg fun e => ?_, h.old.grown hg h.old.size fun k hk => ?_⟩
  · have := hr _ e.symm; omega
  · have := hr _ e.symm; omega
  · have := hr k hk; omega
theorem RunAt.push1 {x : DoneD} (h : RunAt w last vl v1 v2 D S L W) (ho : W'.ownsRow (w.heap.size + 2) 50 6 v' (D.length + 1) (D.flatMap encDone ++ encDone x)) (hg : W.grownBy W' v1.ownBlock) :
    RunAt w last vl v' v2 (D ++ [x]) S L (W'.setCell ⟨w.heap.size + 1, 0, none⟩ v') := by
  obtain ⟨g1, g2, g3⟩ := h.grown hg fun k hk => (h.r1.lt k hk).1
  refine ⟨g1.other (by simp) _, g2.set 0 v', owns_set (h.rl.kept hg (owns_ne h.rl h.r1 (by decide))) (by simp) _, ?_, owns_set (h.r2.kept hg (owns_ne h.r2 h.r1 (by decide))) (by simp) _, g3.setCell (by simp) _⟩
  rw [List.flatMap_append, List.length_append]
  simpa using owns_set ho (a := ⟨w.heap.size + 1, 0, none⟩) (by simp) v'
theorem RunAt.push2 {x : SeenD} (h : RunAt w last vl v1 v2 D S L W) (ho : W'.ownsRow (w.heap.size + 2) 60 6 v' (S.length + 1) (S.flatMap encSeen ++ encSeen x)) (hg : W.grownBy W' v2.ownBlock) :
    RunAt w last vl v1 v' D (S ++ [x]) L (W'.setCell ⟨w.heap.size + 1, 1, none⟩ v') := by
  obtain ⟨g1, g2, g3⟩ := h.grown hg fun k hk => (h.r2.lt k hk).1
  refine ⟨g1.other (by simp) _, g2.set 1 v', owns_set (h.rl.kept hg (owns_ne h.rl h.r2 (by decide))) (by simp) _, owns_set (h.r1.kept hg (owns_ne h.r1 h.r2 (by decide))) (by simp) _, ?_, g3.setCell (by simp) _⟩
  rw [List.flatMap_append, List.length_append]
  simpa using owns_set ho (a := ⟨w.heap.size + 1, 1, none⟩) (by simp) v'
/-- A box of another type, while a row grows. -/
theorem var_push {b : Nat} {T : TypeId} {cs : List Value} (h : VarAt W b T cs) {base e size n : Nat} {v : Value} {xs : List Value} (hr : W.ownsRow base e size v n xs) (hte : T ≠ e) (hg : W.grownBy W' v.ownBlock) {a : Addr} (hb : b ≠ a.block) (u : Value) : VarAt (W'.setCell a u) b T cs :=
  (h.grown hg (var_not_row h hte hr)).other hb u
theorem RunAt.applied {ws : List WrD} {L' : List ItemD} {at_ : Int} (h : RunAt w last vl v1 v2 D S L W) (ha : ApAt W w.heap.size (w.heap.size + 2) at_ at_ 0 ws L L' v' ws.length W') : RunAt w at_ v' v1 v2 D S L' W' := by
  have hne : ∀ {v : Value} {e size n : Nat} {xs : List Value}, W.ownsRow (w.heap.size + 2) e size v n xs → v.ownBlock = none ∨ v.ownBlock ≠ some w.heap.size := fun {v e size n xs} hr => by
    refine .inr fun e => ?_
    have := (hr.lt _ e).1
    omega
  refine ⟨ha.st, h.hi.grown ha.grown (by simp), ha.row, h.r1.kept ha.grown (hne h.r1), h.r2.kept ha.grown (hne h.r2), h.old.grown ha.grown h.old.size fun k hk => ?_⟩
  injection hk with hk
  omega
end
/-- Another row grows, or another box is written: all stays. -/
theorem RunAt.otherRow {w W W' : World} {last : Int} {vl v1 v2 : Value} {D : List DoneD} {S : List SeenD} {L : List ItemD} (h : RunAt w last vl v1 v2 D S L W) {row : Option Nat} (hg : W.grownBy W' row) (hr : ∀ k, row = some k → w.heap.size + 2 ≤ k)
    (h1 : vl.ownBlock = none ∨ vl.ownBlock ≠ row) (h2 : v1.ownBlock = none ∨ v1.ownBlock ≠ row) (h3 : v2.ownBlock = none ∨ v2.ownBlock ≠ row) : RunAt w last vl v1 v2 D S L W' := by
  obtain ⟨g1, g2, g3⟩ := h.grown hg hr
  exact ⟨g1, g2, h.rl.kept hg h1, h.r1.kept hg h2, h.r2.kept hg h3, g3⟩
theorem grown_set (W : World) (a : Addr) (u : Value) : W.grownBy (W.setCell a u) (some a.block) :=
  ⟨rfl, rfl, rfl, by simp, fun k _ hne => Below.heap_setCell W a u k fun e => hne (by rw [e])⟩
theorem RunAt.valsGrow {w W W' : World} {last : Int} {vl v1 v2 vv : Value} {D : List DoneD} {S : List SeenD} {L : List ItemD} (h : RunAt w last vl v1 v2 D S L W) {b e size n : Nat} {xs : List Value} (hv : W.ownsRow b e size vv n xs) (hb : w.heap.size + 2 ≤ b) (he : e ≠ 97 ∧ e ≠ 50 ∧ e ≠ 60) (hg : W.grownBy W' vv.ownBlock) : RunAt w last vl v1 v2 D S L W' :=
  h.otherRow hg (fun k hk => Nat.le_trans hb (hv.lt k hk).1) (owns_ne h.rl hv he.1.symm) (owns_ne h.r1 hv he.2.1.symm) (owns_ne h.r2 hv he.2.2.symm)
theorem RunAt.boxSet {w W : World} {last : Int} {vl v1 v2 : Value} {D : List DoneD} {S : List SeenD} {L : List ItemD} (h : RunAt w last vl v1 v2 D S L W) {X : Nat} {T : TypeId} {cs : List Value} (hX : VarAt W X T cs) (hb : w.heap.size + 2 ≤ X) (he : T ≠ 97 ∧ T ≠ 50 ∧ T ≠ 60) (j : Nat) (u : Value) : RunAt w last vl v1 v2 D S L (W.setCell ⟨X, j, none⟩ u) :=
  h.otherRow (grown_set W ⟨X, j, none⟩ u) (fun k hk => by have h0 : X = k := Option.some.inj hk; omega) (.inr fun e => var_not_row hX he.1 h.rl e.symm) (.inr fun e => var_not_row hX he.2.1 h.r1 e.symm) (.inr fun e => var_not_row hX he.2.2 h.r2 e.symm)
/-- A value is written in place. -/
theorem set_flat (v : ValD) : ∀ (S : List SeenD) (k : Nat) (s : SeenD), S[k]? = some s →
    (S.set k ⟨s.id, s.key, v⟩).flatMap encSeen = (((S.flatMap encSeen).set (k * 6 + 3) (.int .i64 v.kind)).set (k * 6 + 4) (.int .u64 v.bits)).set (k * 6 + 5) (.string v.text)
  | [], k, s, h => by simp at h
  | x :: S, 0, s, h => by
    simp at h; subst h
    rfl
  | x :: S, k + 1, s, h => by
    have ih := set_flat v S k s (by simpa using h)
    rw [List.set_cons_succ, List.flatMap_cons, ih, List.flatMap_cons]
    have e : ∀ (i : Nat) (l : List Value) (u : Value), (encSeen x ++ l).set ((k + 1) * 6 + i) u = encSeen x ++ l.set (k * 6 + i) u := fun i l u => by
      rw [List.set_append_right _ _ (by simp [encSeen]; omega)]
      congr 2
      simp [encSeen]; omega
    rw [e, e, e]
theorem set_cells {W : World} {g : Nat} {cur : Array Value} {e : TypeId} (h : W.heap[g]? = some (.cells cur e (0, 0))) (j : Nat) (u : Value) : (W.setCell ⟨g, j, none⟩ u).heap[g]? = some (.cells (cur.setIfInBounds j u) e (0, 0)) := by
  show (W.heap.modify g _)[g]? = _
  rw [Array.getElem?_modify, if_pos rfl, h]
  simp
theorem own_set3 {W : World} {base g c : Nat} {S : List SeenD} (h : W.ownsRow base 60 6 (.slice (some ⟨g, 0, none⟩) S.length c) S.length (S.flatMap encSeen)) {k : Nat} {s : SeenD} (hk : S[k]? = some s) (v : ValD) :
    (((W.setCell ⟨g, k * 6 + 3, none⟩ (.int .i64 v.kind)).setCell ⟨g, k * 6 + 4, none⟩ (.int .u64 v.bits)).setCell ⟨g, k * 6 + 5, none⟩ (.string v.text)).ownsRow base 60 6 (.slice (some ⟨g, 0, none⟩) S.length c) S.length ((S.set k ⟨s.id, s.key, v⟩).flatMap encSeen) := by
  obtain ⟨h0, ⟨h1, h2⟩ | ⟨g', cap, cur, h1, hb, hg, hn, hm, hs, ht⟩⟩ := h
  · cases h1
  · cases h1
    rw [set_flat v S k s hk]
    refine ⟨by simpa using h0, .inr ⟨g, c, _, rfl, hb, set_cells (set_cells (set_cells hg _ _) _ _) _ _, hn, hm, by simpa using hs, ?_⟩⟩
    simp only [Array.toList_setIfInBounds, List.take_set]
    rw [ht]
theorem owns_at {w : World} {base e size n c m : Nat} {a : Option Addr} {xs : List Value} (h : w.ownsRow base e size (.slice a n c) m xs) (hn : 0 < n) : ∃ g, a = some ⟨g, 0, none⟩ ∧ base ≤ g := by
  obtain ⟨-, ⟨h1, h2⟩ | ⟨g, cap, cur, h1, hb, -⟩⟩ := h
  · cases h1; omega
  · cases h1; exact ⟨g, rfl, hb⟩
theorem owns_free {w : World} {base e size n c m g : Nat} {xs : List Value} (h : w.ownsRow base e size (.slice (some ⟨g, 0, none⟩) n c) m xs) (j : Nat) : w.frozen? ⟨g, j, none⟩ = false := by
  obtain ⟨-, ⟨h1, h2⟩ | ⟨g', cap, cur, h1, hb, hg, -⟩⟩ := h
  · cases h1
  · cases h1; simp [World.frozen?, hg]
/-! ### The bytes that came in -/
def encBy (n : Int) : List Value := [.int .u8 n]
theorem cells5 : Try.prog.cellsOf 5 = 1 := by kernel_rfl
theorem und67 : Try.prog.underlying 67 = some (.slice 5) := by kernel_rfl
theorem ArgAt.u8s {v : Value} {w : World} (h : ArgAt Try.prog 67 v w) : ∃ xs : List Int, (∀ x ∈ xs, 0 ≤ x ∧ x ≤ 255) ∧ RowOf encBy 1 w v xs := by
  obtain ⟨v', xs, h1, h2, h3⟩ := h.slice und67 (φ := fun cs => ∃ v xs, (∀ x ∈ xs, 0 ≤ x ∧ x ≤ 255) ∧ cs = [v] ∧ RowOf encBy 1 w v xs) (fun _ E => opens_slice (enc := encBy) (R := fun x : Int => 0 ≤ x ∧ x ≤ 255) und67 cells5 (by decide) (fun _ => rfl) ((opens_int Try.underlying5).mono fun cs ⟨n, hn, hc⟩ => ⟨n, by simp [Lit.wf, IntKind.min, IntKind.max, IntKind.signed, IntKind.bits] at hn; omega, hc⟩))
  simp at h2; subst h2
  exact ⟨xs, h1, h3⟩
theorem RowOf.byAt {w : World} {a : Option Addr} {n cap : Nat} {xs : List Int} (h : RowOf encBy 1 w (.slice a n cap) xs) {i : Nat} (hi : i < xs.length) :
    ∃ b o x, a = some ⟨b, o, none⟩ ∧ b < w.heap.size ∧ xs[i]? = some x ∧ w.cell? ⟨b, o + i, none⟩ = some (.int .u8 x) := by
  obtain ⟨a', cap', hv, h1, h2, h3⟩ := h
  cases hv
  obtain ⟨b, o, rfl, hlt, hc⟩ := h3 (by omega)
  have hp : xs[i]? = some xs[i] := List.getElem?_eq_getElem hi
  refine ⟨b, o, xs[i], rfl, hlt, hp, ?_⟩
  have := hc i 0 _ _ hp rfl
  rw [Nat.mul_one, Nat.add_zero] at this
  exact this
theorem RowOf.txnAt {w : World} {a : Option Addr} {n cap : Nat} {ts : List TxnD} (h : RowOf encTxn 4 w (.slice a n cap) ts) {i : Nat} (hi : i < ts.length) :
    ∃ b o t, a = some ⟨b, o, none⟩ ∧ b < w.heap.size ∧ ts[i]? = some t ∧ w.cell? ⟨b, o + i * 4, none⟩ = some (.int .i64 t.id.s) ∧ w.cell? ⟨b, o + i * 4 + 1, none⟩ = some (.int .i64 t.id.q) ∧ w.cell? ⟨b, o + i * 4 + 2, none⟩ = some t.rv ∧ w.cell? ⟨b, o + i * 4 + 3, none⟩ = some t.wv := by
  obtain ⟨a', cap', hv, h1, h2, h3⟩ := h
  cases hv
  obtain ⟨b, o, rfl, hlt, hc⟩ := h3 (by omega)
  have hp : ts[i]? = some ts[i] := List.getElem?_eq_getElem hi
  exact ⟨b, o, ts[i], rfl, hlt, hp, hc i 0 _ _ hp rfl, hc i 1 _ _ hp rfl, hc i 2 _ _ hp rfl, hc i 3 _ _ hp rfl⟩
end Go.Proofs.Ytmdfilffoomckaa
