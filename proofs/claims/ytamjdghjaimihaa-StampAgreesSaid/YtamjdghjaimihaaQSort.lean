/- Those that wait, sorted. Conditions: each law's own. -/
import Derived.Test.YtamjdghjaimihaaQCmp
import Derived.Test.YtamjdghjaimihaaLay
import Derived.Test.YtamjdghjaimihaaTails
import Derived.Shelf.SlSortCmp.Whole1
namespace Go.Proofs.Ytamjdghjaimihaa
open Go.ChangeShapes Go.WideShapes Go.ChangeAt Go.RowKit

theorem cmpO_neg (g : Int) (a b : OneD) : cmpO g a b < 0 ↔ LtO g a b := by
  unfold cmpO LtO lessId
  split
  · rename_i h; simp [h]
  · rename_i h
    split
    · rename_i h2
      constructor
      · intro h3; omega
      · rintro (h3 | ⟨h3, -⟩) <;> omega
    · rename_i h2
      have he : stampS g a = stampS g b := by omega
      split
      · rename_i h3
        simp only [Bool.or_eq_true, Bool.and_eq_true, decide_eq_true_eq, beq_iff_eq] at h3
        simp [he]; exact h3
      · rename_i h3
        simp only [Bool.or_eq_true, Bool.and_eq_true, decide_eq_true_eq, beq_iff_eq] at h3
        constructor
        · intro h4; omega
        · rintro (h4 | ⟨-, h4⟩)
          · omega
          · exact absurd h4 h3
def cfM (g : Int) (M : List MemO) (x y : { y : MemO // y ∈ M }) : Int := cmpO g x.1.o y.1.o
theorem ltOf_cfM {g : Int} {M : List MemO} (x y : { y : MemO // y ∈ M }) : ltOf (cfM g M) x y = true ↔ LtO g x.1.o y.1.o := by
  unfold ltOf cfM
  rw [decide_eq_true_eq, cmpO_neg]
theorem swoM (g : Int) (M : List MemO) [Inhabited { y : MemO // y ∈ M }] : Go.Sort.SWO (ltOf (cfM g M)) where
  irrefl x := by rw [Bool.eq_false_iff]; intro h; exact LtO.irrefl ((ltOf_cfM x x).1 h)
  trans x y z h1 h2 := by rw [ltOf_cfM] at *; exact h1.trans h2
  ntrans x y z h1 h2 := by
    rw [Bool.eq_false_iff, ne_eq, ltOf_cfM] at *
    unfold LtO at *; omega

/-! ### The worlds that the sort passes through -/
section
variable {α : Type} [Inhabited α] {enc : α → Value} {w : World} {blk off n : Nat} {d : Array α} {os : Array Obj}
theorem sortW_size : w.heap.size ≤ (sortWorld enc w blk off n d os).heap.size := by
  simp [sortWorld, Go.Sort.grow]
theorem sortW_block {k : Nat} (hk : k < w.heap.size) (hne : k ≠ blk) : (sortWorld enc w blk off n d os).heap[k]? = w.heap[k]? := by
  simp only [sortWorld, Go.Sort.grow]
  rw [Array.getElem?_append_left (by simpa using hk)]
  simp only [Go.Sort.putRow, Go.Sort.mapBlock, Go.Sort.ahead]
  rw [Array.getElem?_modify, if_neg (fun e => hne e.symm)]
theorem sortW_grown : w.grownBy (sortWorld enc w blk off n d os) (some blk) :=
  ⟨rfl, rfl, rfl, sortW_size, fun k hk hne => sortW_block hk (fun e => hne (by rw [e]))⟩
theorem sortW_frozen {k : Nat} (hb : blk < w.heap.size) : (sortWorld enc w blk off n d os).frozen? ⟨blk, k, none⟩ = w.frozen? ⟨blk, k, none⟩ := by
  have h1 : (Go.Sort.grow (Go.Sort.putRow enc (Go.Sort.ahead w n) blk off d) os).frozen? ⟨blk, k, none⟩ = (Go.Sort.putRow enc (Go.Sort.ahead w n) blk off d).frozen? ⟨blk, k, none⟩ := by
    apply World.frozen?_of_block
    simp only [Go.Sort.grow]
    rw [Array.getElem?_append_left (by simpa using hb)]
  show (Go.Sort.grow (Go.Sort.putRow enc (Go.Sort.ahead w n) blk off d) os).frozen? ⟨blk, k, none⟩ = _
  rw [h1, Go.Sort.frozen?_putRow]
  rfl
theorem sortW_cell {k : Nat} (hb : blk < w.heap.size) : (sortWorld enc w blk off n d os).cell? ⟨blk, k, none⟩ = (Go.Sort.putRow enc (Go.Sort.ahead w n) blk off d).cell? ⟨blk, k, none⟩ := by
  apply World.cell?_of_block
  show (Go.Sort.grow _ os).heap[blk]? = _
  simp only [Go.Sort.grow]
  rw [Array.getElem?_append_left (by simpa using hb)]
theorem sortW_tail {base cap len : Nat} {d0 : Array α} (hT : Tail w base (.slice (some ⟨blk, off, none⟩) len cap) len (d0.toList.map enc)) (hs : d.size = d0.size) (hp : 0 < len) :
    Tail (sortWorld enc w blk off n d os) base (.slice (some ⟨blk, off, none⟩) len cap) len (d.toList.map enc) ∧ Go.Sort.Holds enc w blk off d0 ∧ blk < w.heap.size ∧ d0.size = len := by
  obtain ⟨ao, cap', hv, h1, h2, h3, h4, h5⟩ := hT
  cases hv
  obtain ⟨g, of, ha, hg, hlt, hc, hx⟩ := h5 (by omega)
  cases ha
  have hlen : d0.size = len := by simpa using h1
  have hH : Go.Sort.Holds enc w blk off d0 := fun j hj => by
    refine ⟨hx j _ ?_, (hc j (by omega)).2⟩
    rw [List.getElem?_map, Array.getElem?_toList, Array.getElem?_eq_getElem hj, getElem!_pos d0 j hj]; rfl
  refine ⟨⟨_, cap, rfl, by simp; omega, h2, h3, h4, fun _ => ⟨blk, off, rfl, hg, Nat.lt_of_lt_of_le hlt sortW_size, fun j hj => ?_, fun j u hu => ?_⟩⟩, hH, hlt, hlen⟩
  · rw [sortW_frozen hlt, sortW_cell hlt]
    refine ⟨?_, (hc j hj).2⟩
    by_cases hjl : j < d.size
    · rw [Go.Sort.cell?_putRow enc (Go.Sort.ahead w n) blk off d0 d hH hs j hjl]; rfl
    · rw [Go.Sort.cell?_putRow_other _ _ _ _ _ _ (by right; right; simp only; omega)]
      exact (hc j hj).1
  · rw [sortW_cell hlt]
    have hj : j < d.size := by have := (List.getElem?_eq_some_iff.1 hu).1; simpa using this
    rw [Go.Sort.cell?_putRow enc (Go.Sort.ahead w n) blk off d0 d hH hs j hj, getElem!_pos d j hj]
    rw [List.getElem?_map, Array.getElem?_toList, Array.getElem?_eq_getElem hj] at hu
    exact hu
end
def SortEnd (w : World) (g : Int) (base : Nat) (v : Value) (M : List MemO) (e : Ending) (w' : World) : Prop :=
  e = .returned (.tuple #[]) ∧ ∃ M' : List MemO, M'.Perm M ∧ M'.Pairwise (fun a b => ¬ LtO g b.o a.o) ∧ Tail w' base v M'.length (M'.map ptr) ∧ w.grownBy w' v.ownBlock
theorem c49 {w : World} {g clock : Int} {B base : Nat} {M : List MemO} {v : Value} (hT : Tail w base v M.length (M.map ptr)) (hM : ∀ y ∈ M, OneAt w g B y ∧ OneOk g clock y.o) (hpos : 0 < M.length)
    (hsep : ∀ k, v.ownBlock = some k → ∀ y ∈ M, k ≠ y.p ∧ k ≠ y.m ∧ y.gs.ownBlock ≠ some k) (hn : M.length < 4611686018427387904) :
    Calls Try.prog 49 #[v, .func (.func 50) #[] #[]] w (SortEnd w g base v M) := by
  obtain ⟨ao, cap, rfl, h1, h2, h3, h4, h5⟩ := id hT
  obtain ⟨blk, off, rfl, hg, hlt, hc, hx⟩ := h5 (by omega)
  have hin : Inhabited { y : MemO // y ∈ M } := ⟨⟨M[0], List.getElem_mem hpos⟩⟩
  have hd : (M.attach.toArray.toList.map fun x : { y : MemO // y ∈ M } => ptr x.1) = M.map ptr := by
    simp
  have hT' : Tail w base (.slice (some ⟨blk, off, none⟩) M.length cap) M.length (M.attach.toArray.toList.map fun x : { y : MemO // y ∈ M } => ptr x.1) := by rw [hd]; exact hT
  obtain ⟨-, hH, -, hsz⟩ := sortW_tail (n := 0) (os := #[]) (d := M.attach.toArray) hT' rfl hpos
  have eg : ∀ args w, (callFunc 50 args).run Try.prog w = .ok (.enter 50 args) w := enters_of Try.func50 (by kernel_rfl) rfl
  have hcmp : CmpLays1 Try.prog 50 #[] (fun x : { y : MemO // y ∈ M } => ptr x.1) (cfM g M) blk off M.attach.toArray.size w := fun m os dk _ x y => by
    have keep : ∀ z : { y : MemO // y ∈ M }, OneAt (sortWorld (fun x : { y : MemO // y ∈ M } => ptr x.1) w blk off m dk os) g B z.1 := fun z => by
      have h0 := (hM z.1 z.2).1
      have hs := hsep blk rfl z.1 z.2
      refine h0.keep (sortW_block h0.box.lt (Ne.symm hs.1)) (sortW_block h0.map.lt (Ne.symm hs.2.1)) fun k hk => sortW_block (h0.row.lt k hk).2 (fun e => hs.2.2 (by rw [hk, e]))
    exact c50 (keep x) (keep y) (hM x.1 x.2).2 (hM y.1 y.2).2
  have hcon := Any.slices_SortFunc sortL (fun x : { y : MemO // y ∈ M } => ptr x.1) (fun _ => rfl) (cfM g M) (swoM g M) 50 #[] blk off cap M.attach.toArray w eg hcmp hH hlt (by rw [hsz]; exact hn)
  change Calls Try.prog 49 _ _ _ at hcon
  rw [hsz] at hcon
  refine hcon.mono ?_
  rintro e w' ⟨rfl, d', n, os, hp, hso, rfl⟩
  obtain ⟨p1, -, p2⟩ := hp
  have hsz' : d'.size = M.length := by rw [p1]; exact hsz
  have hperm : d'.toList.Perm M.attach := by
    have e1 : (d'.extract 0 M.length).toList = d'.toList := by rw [← hsz']; simp
    have e2 : (M.attach.toArray.extract 0 M.length).toList = M.attach := by simp [List.take_of_length_le]
    rw [e1, e2] at p2; exact p2
  refine ⟨rfl, d'.toList.map (·.1), ?_, ?_, ?_, sortW_grown⟩
  · have := hperm.map (·.1)
    rwa [List.attach_map_subtype_val] at this
  · rw [List.pairwise_map, List.pairwise_iff_getElem]
    intro i j hi hj hij
    have h0 := hso i j (Nat.zero_le _) hij (by simpa [hsz'] using hj)
    rw [getElem!_pos d' i (by simpa using hi), getElem!_pos d' j (by simpa using hj)] at h0
    intro h6
    rw [← ltOf_cfM] at h6
    have h7 : ltOf (cfM g M) d'[j] d'[i] = true := h6
    rw [h0] at h7; cases h7
  · have h0 := (sortW_tail (n := n) (os := os) (d := d') hT' (by rw [p1]) hpos).1
    have e3 : (d'.toList.map (·.1)).length = M.length := by simpa using hsz'
    have e4 : (d'.toList.map (·.1)).map ptr = d'.toList.map fun x => ptr x.1 := by rw [List.map_map]; rfl
    show Tail _ base (.slice (some ⟨blk, off, none⟩) M.length cap) _ _
    rw [e3, e4]
    exact h0
end Go.Proofs.Ytamjdghjaimihaa
