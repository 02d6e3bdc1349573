/- The reference's queue in memory. Conditions: each law's own. -/
import Derived.Test.YtamjdghjaimihaaRLess
namespace Go.Proofs.Ytamjdghjaimihaa
open Go.ChangeShapes Go.WideShapes Go.ChangeAt Go.RowKit

structure RefAt (w : World) (x : Nat) (g : Int) (S : QS) (L : List RefO) (lv : Value) (B : Nat) : Prop where
  box : VarAt w x 64 [.int .i64 g, .int .u64 S.clock, lv]
  row : w.ownsRow B 55 7 lv L.length (L.flatMap encR)
  lst : L.map (·.1) = S.L
  ok : QOk g S
  gs : ∀ z ∈ L, w.ownsRow B 3 1 z.2 z.1.groups.length (z.1.groups.map (Value.int .i64))
  lowX : B ≤ x
  g0 : 0 ≤ g ∧ g < 4
def ROwn (x : Nat) (lv : Value) (k : Nat) : Prop := k = x ∨ lv.ownBlock = some k
def RZone (x : Nat) (L : List RefO) (lv : Value) (k : Nat) : Prop := ROwn x lv k ∨ ∃ z ∈ L, z.2.ownBlock = some k
structure RStep (x : Nat) (w : World) (L : List RefO) (lv : Value) (w' : World) (L' : List RefO) (lv' : Value) : Prop where
  os : w'.os = w.os
  tape : w'.tape = w.tape
  output : w'.output = w.output
  size : w.heap.size ≤ w'.heap.size
  block : ∀ k, k < w.heap.size → ¬ ROwn x lv k → w'.heap[k]? = w.heap[k]?
  own : ∀ k, ROwn x lv' k → ROwn x lv k ∨ w.heap.size ≤ k
  zone : ∀ k, RZone x L' lv' k → RZone x L lv k ∨ w.heap.size ≤ k
theorem RStep.of_below {x : Nat} {w w' : World} {L : List RefO} {lv : Value} (hb : Below w.heap.size w w') : RStep x w L lv w' L lv :=
  ⟨hb.os, hb.tape, hb.output, hb.size, fun k hk _ => hb.block k hk, fun _ h => .inl h, fun _ h => .inl h⟩
section
variable {w w' : World} {x : Nat} {g : Int} {S : QS} {L : List RefO} {lv : Value} {B : Nat}
theorem ownsRow_keep {e : TypeId} {size n : Nat} {v : Value} {xs : List Value} {base : Nat} (h : w.ownsRow base e size v n xs) (hk : ∀ k, v.ownBlock = some k → w'.heap[k]? = w.heap[k]?) : w'.ownsRow base e size v n xs := by
  obtain ⟨a1, a2⟩ := h
  refine ⟨a1, a2.imp id fun ⟨k, cap, cur, a, b, c, d⟩ => ⟨k, cap, cur, a, b, ?_, d⟩⟩
  rw [hk k (by rw [a]; rfl)]; exact c
theorem RefAt.keep (h : RefAt w x g S L lv B) (hb : ∀ k, k < w.heap.size → RZone x L lv k → w'.heap[k]? = w.heap[k]?) : RefAt w' x g S L lv B where
  box := by unfold VarAt; rw [hb x h.box.lt (.inl (.inl rfl))]; exact h.box
  row := ownsRow_keep h.row fun k hk => hb k (h.row.lt k hk).2 (.inl (.inr hk))
  lst := h.lst
  ok := h.ok
  gs := fun z hz => ownsRow_keep (h.gs z hz) fun k hk => hb k ((h.gs z hz).lt k hk).2 (.inr ⟨z, hz, hk⟩)
  lowX := h.lowX
  g0 := h.g0
theorem RefAt.below (h : RefAt w x g S L lv B) (hb : Below w.heap.size w w') : RefAt w' x g S L lv B := h.keep fun k hk _ => hb.block k hk
theorem RefAt.zone (h : RefAt w x g S L lv B) {k : Nat} (hk : RZone x L lv k) : B ≤ k ∧ k < w.heap.size := by
  rcases hk with (rfl | hk) | ⟨z, hz, hk⟩
  · exact ⟨h.lowX, h.box.lt⟩
  · exact h.row.lt k hk
  · exact (h.gs z hz).lt k hk
theorem RefAt.mem (h : RefAt w x g S L lv B) {z : RefO} (hz : z ∈ L) : z.1 ∈ S.L := h.lst ▸ List.mem_map_of_mem hz
theorem RefAt.okOf (h : RefAt w x g S L lv B) {z : RefO} (hz : z ∈ L) : OneOk g S.clock z.1 := h.ok.ones _ (h.mem hz)
theorem RefAt.gok (h : RefAt w x g S L lv B) {z : RefO} (hz : z ∈ L) : GOk z w := ⟨owns_rowG (h.gs z hz), (h.okOf hz).range⟩
theorem RefAt.len (h : RefAt w x g S L lv B) : L.length = S.L.length := by have := congrArg List.length h.lst; rwa [List.length_map] at this
theorem flatR_len (L : List RefO) : (L.flatMap encR).length = L.length * 7 := by
  induction L with
  | nil => rfl
  | cons p L ih => simp only [List.flatMap_cons, List.length_append, List.length_cons, ih]; simp only [encR, List.length_cons, List.length_nil]; omega
theorem owns_slice' {base e size n : Nat} {v : Value} {xs : List Value} (h : w.ownsRow base e size v n xs) : ∃ a c, v = .slice a n c := by
  obtain ⟨-, ⟨h1, h2⟩ | ⟨k, cap, cur, h1, -⟩⟩ := h
  · rw [h2]; exact ⟨none, 0, h1⟩
  · exact ⟨_, _, h1⟩
theorem row_addr {base : Nat} {v : Value} {O : List RefO} (h : w.ownsRow base 55 7 v O.length (O.flatMap encR)) (hp : 0 < O.length) : ∃ k cap, v = .slice (some ⟨k, 0, none⟩) O.length cap ∧ k < w.heap.size ∧ O.length ≤ cap := by
  obtain ⟨-, ⟨h1, h2⟩ | ⟨k, cap, cur, h1, -, h3, h4, -⟩⟩ := h
  · omega
  · exact ⟨k, cap, h1, (Array.getElem?_eq_some_iff.1 h3).1, h4⟩
theorem row_at {base k cap : Nat} {O : List RefO} (h : w.ownsRow base 55 7 (.slice (some ⟨k, 0, none⟩) O.length cap) O.length (O.flatMap encR)) {i : Nat} {y : RefO} (hy : O[i]? = some y) {j : Nat} {u : Value} (hu : (encR y)[j]? = some u) : w.cell? ⟨k, i * 7 + j, none⟩ = some u := by
  have := h.cells rfl (i * 7 + j) u (flatMap_at (enc := encR) (k := 7) (fun _ => rfl) O i j y u hy hu)
  rw [Go.WideShapes.add_plain, Nat.zero_add] at this
  exact this
theorem row_take {base k cap : Nat} {O : List RefO} (h : w.ownsRow base 55 7 (.slice (some ⟨k, 0, none⟩) O.length cap) O.length (O.flatMap encR)) (i : Nat) : ∀ j u, ((O.take i).flatMap encR)[j]? = some u → w.cell? ((⟨k, 0, none⟩ : Addr).add j) = some u := by
  intro j u hj
  refine h.cells rfl j u ?_
  conv => lhs; rw [← List.take_append_drop i O]
  rw [List.flatMap_append, List.getElem?_append_left (List.getElem?_eq_some_iff.1 hj).1]
  exact hj
theorem row_drop {base k cap : Nat} {O : List RefO} (h : w.ownsRow base 55 7 (.slice (some ⟨k, 0, none⟩) O.length cap) O.length (O.flatMap encR)) (i : Nat) (hi : i ≤ O.length) : ∀ j u, ((O.drop i).flatMap encR)[j]? = some u → w.cell? ((⟨k, i * 7, none⟩ : Addr).add j) = some u := by
  intro j u hj
  have := h.cells rfl (i * 7 + j) u (by
    conv => lhs; rw [← List.take_append_drop i O]
    rw [List.flatMap_append, List.getElem?_append_right (by rw [flatR_len, List.length_take]; have : min i O.length = i := by omega
                                                            rw [this]; omega)]
    rw [flatR_len, List.length_take, show min i O.length = i by omega, show i * 7 + j - i * 7 = j by omega]
    exact hj)
  rw [Go.WideShapes.add_plain] at this ⊢
  rw [show i * 7 + j = 0 + (i * 7 + j) by omega]
  exact this
theorem RowOf.oneG {v : Value} {xs : List Int} (h : RowOf encG 1 w v xs) : v.oneCell' = true := by obtain ⟨a, cap, rfl, -⟩ := h; rfl
theorem encR_one {O : List RefO} (h : ∀ p ∈ O, GOk p w) : ∀ u ∈ O.flatMap encR, u.oneCell' = true := by
  intro u hu
  obtain ⟨p, hp, hup⟩ := List.mem_flatMap.1 hu
  simp only [encR, List.mem_cons, List.not_mem_nil, or_false] at hup
  rcases hup with rfl | rfl | rfl | rfl | rfl | rfl | rfl
  · rfl
  · rfl
  · exact (h p hp).row.oneG
  all_goals rfl
/-- One's cells, somewhere in a row. -/
def CellsR (p o : Nat) (y : RefO) (W : World) : Prop :=
  W.cell? ⟨p, o, none⟩ = some (.int .i64 y.1.id.s) ∧ W.cell? ⟨p, o + 1, none⟩ = some (.int .i64 y.1.id.q) ∧ W.cell? ⟨p, o + 2, none⟩ = some y.2 ∧ W.cell? ⟨p, o + 3, none⟩ = some (.int .u64 (y.1.kn 0)) ∧
  W.cell? ⟨p, o + 4, none⟩ = some (.int .u64 (y.1.kn 1)) ∧ W.cell? ⟨p, o + 5, none⟩ = some (.int .u64 (y.1.kn 2)) ∧ W.cell? ⟨p, o + 6, none⟩ = some (.int .u64 (y.1.kn 3)) ∧ p < W.heap.size
theorem CellsR.of {base k cap : Nat} {O : List RefO} (h : w.ownsRow base 55 7 (.slice (some ⟨k, 0, none⟩) O.length cap) O.length (O.flatMap encR)) {i : Nat} {y : RefO} (hy : O[i]? = some y) : CellsR k (i * 7) y w :=
  ⟨row_at h hy (j := 0) rfl, row_at h hy (j := 1) rfl, row_at h hy (j := 2) rfl, row_at h hy (j := 3) rfl, row_at h hy (j := 4) rfl, row_at h hy (j := 5) rfl, row_at h hy (j := 6) rfl, (h.lt k rfl).2⟩
theorem CellsR.below {p o : Nat} {y : RefO} (h : CellsR p o y w) (hb : Below w.heap.size w w') : CellsR p o y w' := by
  obtain ⟨h0, h1, h2, h3, h4, h5, h6, hl⟩ := h
  have k := fun o => hb.cell (p := ⟨p, o, none⟩) hl
  exact ⟨by rw [k]; exact h0, by rw [k]; exact h1, by rw [k]; exact h2, by rw [k]; exact h3, by rw [k]; exact h4, by rw [k]; exact h5, by rw [k]; exact h6, Nat.lt_of_lt_of_le hl hb.size⟩
end
/-! ### Order, plain -/
theorem sorted_ins {g : Int} {O : List OneD} {m : Nat} {y : OneD} (hs : Sorted g O) (hm : m ≤ O.length) (h1 : ∀ (i : Nat) z, i < m → O[i]? = some z → ltR g z y = true) (h2 : ∀ z, O[m]? = some z → ltR g z y = false) (hn : ∀ z ∈ O, z.id ≠ y.id) : Sorted g (O.take m ++ y :: O.drop m) := by
  unfold Sorted at *
  have hs' : (O.take m ++ O.drop m).Pairwise (LtO g) := by rw [List.take_append_drop]; exact hs
  rw [List.pairwise_append] at hs' ⊢
  obtain ⟨p1, p2, p3⟩ := hs'
  have hlow : ∀ a ∈ O.take m, LtO g a y := fun a ha => by
    obtain ⟨i, hi⟩ := List.getElem?_of_mem ha
    have hil := (List.getElem?_eq_some_iff.1 hi).1
    rw [List.length_take] at hil
    rw [List.getElem?_take, if_pos (by omega)] at hi
    have := h1 i a (by omega) hi
    unfold ltR at this; simpa using this
  have hhigh : ∀ b ∈ O.drop m, LtO g y b := fun b hb => by
    have hml : m < O.length := by
      rcases Nat.lt_or_ge m O.length with h | h
      · exact h
      · rw [List.drop_eq_nil_of_le h] at hb; cases hb
    have hd : O.drop m = O[m] :: O.drop (m + 1) := List.drop_eq_getElem_cons hml
    have hy : LtO g y O[m] := by
      have := h2 O[m] (List.getElem?_eq_getElem hml)
      unfold ltR at this
      exact LtO.total (fun e => hn O[m] (List.getElem_mem hml) e.symm) (by simpa using this)
    rw [hd] at hb p2
    rw [List.pairwise_cons] at p2
    rcases List.mem_cons.1 hb with rfl | h
    · exact hy
    · exact hy.trans (p2.1 b h)
  refine ⟨p1, List.pairwise_cons.2 ⟨hhigh, p2⟩, fun a ha b hb => ?_⟩
  rcases List.mem_cons.1 hb with rfl | h
  · exact hlow a ha
  · exact p3 a ha b h
end Go.Proofs.Ytamjdghjaimihaa
