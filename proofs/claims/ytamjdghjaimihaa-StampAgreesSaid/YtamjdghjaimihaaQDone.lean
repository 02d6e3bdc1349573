/- The next one is let go. Conditions: each law's own. -/
import Derived.Test.YtamjdghjaimihaaQWait
namespace Go.Proofs.Ytamjdghjaimihaa
open Go.ChangeShapes Go.WideShapes Go.ChangeAt Go.RowKit

/-- What an act of the queue leaves. -/
structure QStep (x : Nat) (w : World) (M : List MemO) (v : Value) (w' : World) (M' : List MemO) (v' : Value) : Prop where
  os : w'.os = w.os
  tape : w'.tape = w.tape
  output : w'.output = w.output
  size : w.heap.size ≤ w'.heap.size
  block : ∀ k, k < w.heap.size → ¬ QOwn x M v k → w'.heap[k]? = w.heap[k]?
  own : ∀ k, QOwn x M' v' k → QOwn x M v k ∨ w.heap.size ≤ k
  zone : ∀ k, QZone x M' v' k → QZone x M v k ∨ w.heap.size ≤ k
theorem QStep.of_below {x : Nat} {w w' : World} {M : List MemO} {v : Value} (hb : Below w.heap.size w w') : QStep x w M v w' M v :=
  ⟨hb.os, hb.tape, hb.output, hb.size, fun k hk _ => hb.block k hk, fun _ h => .inl h, fun _ h => .inl h⟩
theorem QStep.trans {x : Nat} {w w1 w2 : World} {M M1 M2 : List MemO} {v v1 v2 : Value} (h : QStep x w M v w1 M1 v1) (h2 : QStep x w1 M1 v1 w2 M2 v2) : QStep x w M v w2 M2 v2 :=
  ⟨h2.os.trans h.os, h2.tape.trans h.tape, h2.output.trans h.output, Nat.le_trans h.size h2.size,
    fun k hk hn => by rw [h2.block k (Nat.lt_of_lt_of_le hk h.size) (fun h3 => by rcases h.own k h3 with h4 | h4; exact hn h4; omega), h.block k hk hn],
    fun k hk => by
      rcases h2.own k hk with h3 | h3
      · exact h.own k h3
      · exact .inr (Nat.le_trans h.size h3),
    fun k hk => by
      rcases h2.zone k hk with h3 | h3
      · exact h.zone k h3
      · exact .inr (Nat.le_trans h.size h3)⟩
theorem QStep.below {x : Nat} {w w' : World} {g : Int} {S : QS} {M M' : List MemO} {v v' : Value} {B : Nat} (h : QStep x w M v w' M' v') (hq : QAt w x g S M v B) : Below B w w' :=
  ⟨h.os, h.tape, h.output, h.size, fun k hk => by
    rcases Nat.lt_or_ge k w.heap.size with h1 | h1
    · exact h.block k h1 fun h2 => by have := (hq.zone (.inl h2)).1; omega
    · have hB : B ≤ w.heap.size := Nat.le_of_lt (Nat.lt_of_le_of_lt hq.lowX hq.box.lt)
      omega⟩
def QEnd (x : Nat) (g : Int) (B : Nat) (w : World) (M : List MemO) (v : Value) (r : Value) (S' : QS) (e : Ending) (w' : World) : Prop :=
  e = .returned r ∧ ∃ (M' : List MemO) (v' : Value), QAt w' x g S' M' v' B ∧ QStep x w M v w' M' v'
section
variable {w : World} {x : Nat} {g : Int} {S : QS} {M : List MemO} {v : Value} {B : Nat}
theorem QAt.popL {y : MemO} {M' : List MemO} (h : QAt w x g S (y :: M') v B) : QOk g ⟨S.clock, S.L.filter fun o => decide (o.id ≠ y.o.id)⟩ ∧ M'.map (·.o) = ord g (S.L.filter fun o => decide (o.id ≠ y.o.id)) := by
  have hap : Apart (S.L.filter fun o => decide (o.id ≠ y.o.id)) := h.ok.apart.sublist (List.filter_sublist)
  refine ⟨⟨hap, fun o ho => h.ok.ones o (List.mem_filter.1 ho).1, h.ok.clock0, h.ok.clock1⟩, ?_⟩
  have hl := h.cons
  have hs := ord_sorted g h.ok.apart
  have ha : Apart (ord g S.L) := h.ok.apart.perm (ord_perm g S.L)
  rw [hl] at hs ha
  unfold Sorted at hs
  unfold Apart at ha
  rw [List.pairwise_cons] at hs ha
  refine ord_eq hap ?_ hs.2
  have hp := (ord_perm g S.L).filter fun o => decide (o.id ≠ y.o.id)
  rw [hl, List.filter_cons] at hp
  simp only [ne_eq, not_true_eq_false, decide_false, Bool.false_eq_true, if_false] at hp
  rw [List.filter_eq_self.2 (fun o ho => by simpa using Ne.symm (ha.1 o ho))] at hp
  exact hp
theorem next_cons {y : MemO} {M' : List MemO} (h : QAt w x g S (y :: M') v B) : nextS g S = if final y.o then some (y.o.id, stampS g y.o) else none := by unfold nextS; rw [h.cons]
def PopA (gb off cap : Nat) : Option Addr := if cap = 1 then some ⟨gb, off, none⟩ else some ⟨gb, off + 1, none⟩
theorem QAt.pop {y : MemO} {M' : List MemO} {gb off cap : Nat} (h : QAt w x g S (y :: M') (.slice (some ⟨gb, off, none⟩) (M'.length + 1) cap) B) :
    QAt (w.setCell ⟨x, 2, none⟩ (.slice (PopA gb off cap) M'.length (cap - 1))) x g ⟨S.clock, S.L.filter fun o => decide (o.id ≠ y.o.id)⟩ M' (.slice (PopA gb off cap) M'.length (cap - 1)) B ∧
      QStep x w (y :: M') (.slice (some ⟨gb, off, none⟩) (M'.length + 1) cap) (w.setCell ⟨x, 2, none⟩ (.slice (PopA gb off cap) M'.length (cap - 1))) M' (.slice (PopA gb off cap) M'.length (cap - 1)) := by
  have hpop := h.popL
  have hown : (Value.slice (PopA gb off cap) M'.length (cap - 1)).ownBlock = some gb := by unfold PopA; split <;> rfl
  have hgx : gb ≠ x := (h.sep gb rfl).1
  have hrow := h.row
  have hT : Tail w B (.slice (PopA gb off cap) M'.length (cap - 1)) M'.length (M'.map ptr) := by
    have := Tail.drop (w := w) (base := B) (g := gb) (off := off) (n := M'.length + 1) (cap := cap) (xs := (y :: M').map ptr) hrow 1 (by omega) (PopA gb off cap) (fun hc => by unfold PopA; rw [if_neg (by omega)]) (by unfold PopA; split <;> simp)
    simpa using this
  refine ⟨⟨h.box.set 2 _, hT.other (by rw [hown]; simpa using hgx) _, hpop.2, hpop.1, fun z hz => ?_, (List.pairwise_cons.1 h.maps).2, fun k hk => ?_, h.lowX, fun k hk => ?_, h.g0⟩, ?_⟩
  · have h0 := h.ones z (List.mem_cons_of_mem _ hz)
    refine h0.keep (Below.heap_setCell _ _ _ _ ?_) (Below.heap_setCell _ _ _ _ ?_) (fun k hk => Below.heap_setCell _ _ _ _ ?_)
    · intro e
      have h1 := h.box; have h2 := h0.box
      unfold VarAt at h1 h2
      simp only at e
      rw [e, h1] at h2
      injection h2 with h2; injection h2 with h3 h4; cases h4
    · intro e
      have h1 := h.box; have h2 := h0.map
      unfold VarAt at h1; unfold IMap at h2
      simp only at e
      rw [e, h1] at h2
      injection h2 with h2; cases h2
    · intro e
      obtain ⟨-, ⟨h3, -⟩ | ⟨g', cap', cur, h3, -, h4, -⟩⟩ := h0.row
      · rw [h3] at hk; cases hk
      · rw [h3] at hk
        have hgk : g' = k := Option.some.inj hk
        have h1 := h.box
        unfold VarAt at h1
        simp only at e
        rw [hgk, e, h1] at h4
        injection h4 with h4; injection h4 with h5 h6; cases h6
  · rw [hown] at hk
    have hs := h.sep k hk
    exact ⟨hs.1, fun z hz => hs.2 z (List.mem_cons_of_mem _ hz)⟩
  · rw [hown] at hk
    have := h.lowR k hk
    exact ⟨this.1, by simpa using this.2⟩
  · refine ⟨rfl, rfl, rfl, by simp, fun k hk hn => Below.heap_setCell _ _ _ _ (fun e => hn (.inl e)), fun k hk => ?_, fun k hk => ?_⟩
    · rcases hk with rfl | hk | ⟨z, hz, hk⟩
      · exact .inl (.inl rfl)
      · rw [hown] at hk; exact .inl (.inr (.inl hk))
      · exact .inl (.inr (.inr ⟨z, List.mem_cons_of_mem _ hz, hk⟩))
    · rcases hk with (rfl | hk | ⟨z, hz, hk⟩) | ⟨z, hz, hk⟩
      · exact .inl (.inl (.inl rfl))
      · rw [hown] at hk; exact .inl (.inl (.inr (.inl hk)))
      · exact .inl (.inl (.inr (.inr ⟨z, List.mem_cons_of_mem _ hz, hk⟩)))
      · exact .inl (.inr ⟨z, List.mem_cons_of_mem _ hz, hk⟩)
end
end Go.Proofs.Ytamjdghjaimihaa
