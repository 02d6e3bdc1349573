/- The network as a whole: what holds of it, and what Send makes of that. Conditions: each law's own. -/
import Derived.Test.YtkkambhkfegodaaSend
namespace Go.Proofs.Ytkkambhkfegodaa
open Go.ChangeShapes Go.WideShapes Go.ChangeAt Go.RowKit

abbrev Key := Int × Int
abbrev Ents := List (Key × Value × Nat)
/-- The map of a network: its block, its entries, its clock. -/
structure NS where
  r : Nat
  l : Ents
  clock : Nat
/-- The blocks that the network writes. -/
def Own (s : NS) (j : Nat) : Prop := j = s.r ∨ ∃ e ∈ s.l, e.2.1.ownBlock = some j
/-- A bag: the slice v holds the packets ps; none of them lies in a block of A. -/
def BagAt (w : World) (A : Nat → Prop) (v : Value) (ps : List (List Int)) : Prop :=
  ∃ xs : List Value, Tail w 0 v ps.length xs ∧ ∀ (i : Nat) (u : Value) (b : List Int), xs[i]? = some u → ps[i]? = some b → RowOf encB 1 w u b ∧ ∀ g, u.ownBlock = some g → g < w.heap.size ∧ ¬ A g
def Avoid (s : NS) (Z : Nat → Prop) (j : Nat) : Prop := Own s j ∨ Z j
/-- The network at x has the bags B, at most N links, and nothing of it lies in a block of Z. -/
structure NetAt (w : World) (x : Nat) (s : NS) (B : Key → List (List Int)) (Z : Nat → Prop) (N : Nat) : Prop where
  box : VarAt w x 62 [.map (some s.r)]
  map : MapAt encL w s.r s.l s.clock
  fresh : Fresh s.l s.clock
  free : ¬ Own s x
  zx : ¬ Z x
  lt : ∀ j, Own s j → j < w.heap.size ∧ ¬ Z j
  rne : ∀ e ∈ s.l, e.2.1.ownBlock ≠ some s.r
  apart : ∀ e ∈ s.l, ∀ e' ∈ s.l, e.1 ≠ e'.1 → ∀ g, e.2.1.ownBlock = some g → e'.2.1.ownBlock ≠ some g
  bag : ∀ e ∈ s.l, BagAt w (Avoid s Z) e.2.1 (B e.1)
  nobag : ∀ k, valOf s.l k = none → B k = []
  small : ∀ k, (B k).length ≤ 64
  keys : s.l.length ≤ N
structure Step (w : World) (s : NS) (w' : World) (s' : NS) : Prop where
  r : s'.r = s.r
  own : ∀ j, Own s' j → Own s j ∨ w.heap.size ≤ j
  frame : Frame (fun j => ¬ Own s j) w w'
theorem Step.refl (w : World) (s : NS) : Step w s w s := ⟨rfl, fun _ h => .inl h, .refl _ _⟩
theorem Step.trans {w1 w2 w3 : World} {s1 s2 s3 : NS} (h : Step w1 s1 w2 s2) (h2 : Step w2 s2 w3 s3) : Step w1 s1 w3 s3 where
  r := h2.r.trans h.r
  own := fun j hj => (h2.own j hj).elim (fun h3 => h.own j h3) (fun h3 => .inr (Nat.le_trans h.frame.size h3))
  frame := ⟨h2.frame.os.trans h.frame.os, h2.frame.tape.trans h.frame.tape, h2.frame.output.trans h.frame.output, Nat.le_trans h.frame.size h2.frame.size, fun j hj hA =>
    (h2.frame.block j (Nat.lt_of_lt_of_le hj h.frame.size) (fun h3 => (h.own j h3).elim hA (fun h4 => by omega))).trans (h.frame.block j hj hA)⟩
theorem Step.of_below {w w' : World} (h : Below w.heap.size w w') (s : NS) : Step w s w' s := ⟨rfl, fun _ h => .inl h, .of_below h⟩
/-- What the network never had is as it was. -/
theorem Step.below {w w' : World} {s s' : NS} (h : Step w s w' s') {b : Nat} (hb : ∀ j, Own s j → b ≤ j) (hw : b ≤ w.heap.size) : Below b w w' :=
  ⟨h.frame.os, h.frame.tape, h.frame.output, h.frame.size, fun j hj => h.frame.block j (by omega) (fun h2 => by have := hb j h2; omega)⟩

theorem RowOf.frame {w w' : World} {A : Nat → Prop} (hf : Frame A w w') {v : Value} {bs : List Int} (h : RowOf encB 1 w v bs) (hA : ∀ g, v.ownBlock = some g → A g) : RowOf encB 1 w' v bs := by
  obtain ⟨a, cap, rfl, h1, h2, h3⟩ := h
  refine ⟨a, cap, rfl, h1, h2, fun hp => ?_⟩
  obtain ⟨b, o, rfl, hlt, hc⟩ := h3 hp
  refine ⟨b, o, rfl, Nat.lt_of_lt_of_le hlt hf.size, fun i j x u hx hu => ?_⟩
  rw [World.cell?_of_block (a := ⟨b, o + i * 1 + j, none⟩) (hf.block b hlt (hA b rfl))]
  exact hc i j x u hx hu
theorem Tail.frame {w w' : World} {A : Nat → Prop} (hf : Frame A w w') {v : Value} {n b : Nat} {xs : List Value} (h : Tail w b v n xs) (hA : ∀ g, v.ownBlock = some g → A g) : Tail w' b v n xs :=
  h.keep hf.size (fun k hk _ hlt => hf.block k hlt (hA k hk))
theorem BagAt.frame {w w' : World} {A C C' : Nat → Prop} (hf : Frame A w w') {v : Value} {ps : List (List Int)} (h : BagAt w C v ps) (hv : ∀ g, v.ownBlock = some g → A g) (hC : ∀ g, g < w.heap.size → ¬ C g → A g ∧ ¬ C' g) : BagAt w' C' v ps := by
  obtain ⟨xs, ht, hp⟩ := h
  refine ⟨xs, ht.frame hf hv, fun i u b hu hb => ?_⟩
  obtain ⟨h1, h2⟩ := hp i u b hu hb
  exact ⟨h1.frame hf (fun g hg => (hC g (h2 g hg).1 (h2 g hg).2).1), fun g hg => ⟨Nat.lt_of_lt_of_le (h2 g hg).1 hf.size, (hC g (h2 g hg).1 (h2 g hg).2).2⟩⟩
/-- The network is kept where only blocks of Z are written, whatever Z is from then on as long as it gets new blocks only. -/
theorem NetAt.keep {w w' : World} {A Z Z' : Nat → Prop} {x : Nat} {s : NS} {B : Key → List (List Int)} {N : Nat} (h : NetAt w x s B Z N) (hf : Frame A w w') (hA : ∀ j, j < w.heap.size → ¬ Z j → A j ∧ ¬ Z' j) : NetAt w' x s B Z' N where
  box := by unfold VarAt; rw [hf.block x h.box.lt (hA x h.box.lt h.zx).1]; exact h.box
  map := by unfold MapAt; rw [hf.block s.r h.map.lt (hA s.r h.map.lt (h.lt _ (.inl rfl)).2).1]; exact h.map
  fresh := h.fresh
  free := h.free
  zx := (hA x h.box.lt h.zx).2
  lt := fun j hj => ⟨Nat.lt_of_lt_of_le (h.lt j hj).1 hf.size, (hA j (h.lt j hj).1 (h.lt j hj).2).2⟩
  rne := h.rne
  apart := h.apart
  bag := fun e he => (h.bag e he).frame hf (fun g hg => (hA g (h.lt g (.inr ⟨e, he, hg⟩)).1 (h.lt g (.inr ⟨e, he, hg⟩)).2).1) (fun g hg hC => by
    have hZ : ¬ Z g := fun hz => hC (.inr hz)
    exact ⟨(hA g hg hZ).1, fun h2 => h2.elim (fun h3 => hC (.inl h3)) (hA g hg hZ).2⟩)
  nobag := h.nobag
  small := h.small
  keys := h.keys
theorem NetAt.below {w w' : World} {Z : Nat → Prop} {x : Nat} {s : NS} {B : Key → List (List Int)} {N : Nat} (h : NetAt w x s B Z N) (hb : Below w.heap.size w w') : NetAt w' x s B Z N :=
  h.keep (.of_below hb) (fun _ _ hz => ⟨trivial, hz⟩ : ∀ j, j < w.heap.size → ¬ Z j → True ∧ ¬ Z j)
theorem NetAt.alloc {w : World} {Z : Nat → Prop} {x : Nat} {s : NS} {B : Key → List (List Int)} {N : Nat} (h : NetAt w x s B Z N) (o : Obj) : NetAt (w.alloc o) x s B Z N := h.below ((Below.refl _ _).alloc (Nat.le_refl _) o)
theorem NetAt.mono {w : World} {Z : Nat → Prop} {x : Nat} {s : NS} {B : Key → List (List Int)} {N M : Nat} (h : NetAt w x s B Z N) (hN : N ≤ M) : NetAt w x s B Z M := { h with keys := Nat.le_trans h.keys hN }
/-- New's network. -/
def newNS (w : World) : NS := ⟨w.heap.size, [], 0⟩
theorem NetAt.new (w : World) (Z : Nat → Prop) (hZ : ∀ j, Z j → j < w.heap.size) : NetAt ((w.alloc (.map #[] 0)).alloc (.cells #[.map (some w.heap.size)] 62)) (w.heap.size + 1) (newNS w) (fun _ => []) Z 0 where
  box := by have := VarAt.new (w.alloc (.map #[] 0)) 62 [.map (some w.heap.size)]; rw [World.size_alloc] at this; exact this
  map := (MapAt.new w).alloc _
  fresh := .nil _
  free := by
    rintro (h | ⟨e, he, _⟩)
    · simp [newNS] at h
    · cases he
  zx := fun h => by have := hZ _ h; omega
  lt := by
    rintro j (rfl | ⟨e, he, _⟩)
    · exact ⟨by simp [newNS]; omega, fun h => by have := hZ _ h; simp [newNS] at this⟩
    · cases he
  rne := by intro e he; cases he
  apart := by intro e he; cases he
  bag := by intro e he; cases he
  nobag := fun _ _ => rfl
  small := by simp
  keys := by simp [newNS]

theorem valOf_none {l : Ents} {k : Key} (h : valOf l k = none) : ∀ e ∈ l, e.1 ≠ k := by
  intro e he hk
  unfold valOf at h
  simp only [Option.map_eq_none_iff, List.find?_eq_none, decide_eq_true_eq] at h
  exact h e he hk.symm
theorem valOf_some {l : Ents} {k : Key} {v : Value} (h : valOf l k = some v) : ∃ e ∈ l, e.1 = k ∧ e.2.1 = v := by
  unfold valOf at h
  cases hq : l.find? (fun x => decide (k = x.1)) with
  | none => rw [hq] at h; cases h
  | some e =>
    rw [hq] at h
    have h1 := List.find?_some hq
    exact ⟨e, List.mem_of_find?_eq_some hq, (of_decide_eq_true h1).symm, by simpa using h⟩
theorem valOf_mem {l : Ents} (hn : (l.map (·.1)).Nodup) {e : Key × Value × Nat} (he : e ∈ l) : valOf l e.1 = some e.2.1 := by
  cases hv : valOf l e.1 with
  | none => exact absurd rfl (valOf_none hv e he)
  | some v =>
    obtain ⟨e', he', h1, h2⟩ := valOf_some hv
    obtain ⟨i, hi⟩ := List.getElem?_of_mem he
    obtain ⟨j, hj⟩ := List.getElem?_of_mem he'
    have : i = j := nodup_at hn (x := e.1) (by simp [hi]) (by simp [hj, h1])
    subst this
    rw [hi] at hj; injection hj with hj; rw [hj, h2]
/-- The bag of a link, whether it has been or not. -/
theorem NetAt.look {w : World} {x : Nat} {s : NS} {B : Key → List (List Int)} {Z : Nat → Prop} {N : Nat} (h : NetAt w x s B Z N) (k : Key) :
    ∃ (va : Option Addr) (cp : Nat) (xs : List Value), (valOf s.l k).getD (.slice none 0 0) = .slice va (B k).length cp ∧ Tail w 0 (.slice va (B k).length cp) (B k).length xs ∧
      (∀ (i : Nat) (u : Value) (b : List Int), xs[i]? = some u → (B k)[i]? = some b → RowOf encB 1 w u b ∧ ∀ g, u.ownBlock = some g → g < w.heap.size ∧ ¬ Avoid s Z g) ∧ (∀ g, (Value.slice va (B k).length cp).ownBlock = some g → Own s g ∧ g ≠ s.r ∧ ∀ e ∈ s.l, e.1 ≠ k → e.2.1.ownBlock ≠ some g) := by
  cases hv : valOf s.l k with
  | none =>
    have := h.nobag k hv
    rw [this]
    exact ⟨none, 0, [], rfl, Tail.nil _ _, by simp, by simp [Value.ownBlock]⟩
  | some v =>
    obtain ⟨e, he, rfl, rfl⟩ := valOf_some hv
    obtain ⟨xs, ht, hp⟩ := h.bag e he
    obtain ⟨ao, cap, hev, hr⟩ := id ht
    rw [hev] at ht ⊢
    refine ⟨ao, cap, xs, rfl, ht, hp, fun g hg => ⟨.inr ⟨e, he, by rw [hev]; exact hg⟩, ?_, ?_⟩⟩
    · rintro rfl
      exact h.rne e he (by rw [hev]; exact hg)
    · intro e' he' hne
      exact h.apart e he e' he' (Ne.symm hne) g (by rw [hev]; exact hg)

theorem mem_touched {l : Ents} {k : Key} {z v : Value} {c : Nat} {e : Key × Value × Nat} (he : e ∈ setVal (touch l k z c) k v) : (e.1 = k ∧ e.2.1 = v) ∨ (e ∈ l ∧ e.1 ≠ k) := by
  unfold setVal at he
  obtain ⟨y, hy, rfl⟩ := List.mem_map.1 he
  unfold setOne
  split
  · rename_i hk; exact .inl ⟨hk, rfl⟩
  · rename_i hk
    refine .inr ⟨?_, hk⟩
    unfold touch at hy
    split at hy
    · exact hy
    · rcases List.mem_append.1 hy with h | h
      · exact h
      · simp at h; subst h; exact absurd rfl hk
theorem touched_old {l : Ents} {k : Key} {z v : Value} {c : Nat} {e : Key × Value × Nat} (he : e ∈ l) : ∃ e' ∈ setVal (touch l k z c) k v, e'.1 = e.1 := by
  refine ⟨setOne k v e, List.mem_map_of_mem ?_, ?_⟩
  · unfold touch; split
    · exact he
    · exact List.mem_append_left _ he
  · unfold setOne; split <;> rfl
theorem touched_new (l : Ents) (k : Key) (z v : Value) (c : Nat) : ∃ e' ∈ setVal (touch l k z c) k v, e'.1 = k := by
  unfold touch
  split
  · rename_i h
    cases hv : valOf l k with
    | none => rw [hv] at h; cases h
    | some u =>
      obtain ⟨e, he, hk, _⟩ := valOf_some hv
      exact ⟨setOne k v e, List.mem_map_of_mem he, by unfold setOne; split <;> exact hk⟩
  · exact ⟨setOne k v (k, z, c), List.mem_map_of_mem (List.mem_append_right _ (by simp)), by unfold setOne; split <;> rfl⟩
theorem touched_len (l : Ents) (k : Key) (z v : Value) (c : Nat) : (setVal (touch l k z c) k v).length ≤ l.length + 1 := by
  unfold setVal touch; split <;> simp

/-- The bags where one link's is another one. -/
def setB (B : Key → List (List Int)) (k : Key) (ps : List (List Int)) : Key → List (List Int) := fun k' => if k' = k then ps else B k'
theorem setB_same (B : Key → List (List Int)) (k : Key) (ps : List (List Int)) : setB B k ps k = ps := by simp [setB]
theorem setB_other (B : Key → List (List Int)) {k k' : Key} (ps : List (List Int)) (h : k' ≠ k) : setB B k ps k' = B k' := by simp [setB, h]
theorem setB_self (B : Key → List (List Int)) (k : Key) : setB B k (B k) = B := by
  funext k'; unfold setB; split
  · rename_i h; rw [h]
  · rfl

/-- One bag has been written anew: its slice is v3 and holds ps. -/
theorem NetAt.put {w w' : World} {x : Nat} {s : NS} {B : Key → List (List Int)} {Z : Nat → Prop} {N : Nat} (h : NetAt w x s B Z N) (hZ : ∀ j, Z j → j < w.heap.size) (k : Key) (v v3 : Value) (ps : List (List Int)) (hps : ps.length ≤ 64) (l' : Ents) (clock' : Nat)
    (hx : VarAt w' x 62 [.map (some s.r)]) (hm : MapAt encL w' s.r l' clock') (hf' : Fresh l' clock') {M : Nat} (hlen : l'.length ≤ M)
    (hl : ∀ e ∈ l', (e.1 = k ∧ e.2.1 = v3) ∨ (e ∈ s.l ∧ e.1 ≠ k)) (hold : ∀ e ∈ s.l, ∃ e' ∈ l', e'.1 = e.1) (hnew : ∃ e' ∈ l', e'.1 = k)
    (hvo : ∀ g, v.ownBlock = some g → Own s g ∧ g ≠ s.r ∧ ∀ e ∈ s.l, e.1 ≠ k → e.2.1.ownBlock ≠ some g)
    (hv3 : v3.ownBlock = v.ownBlock ∨ ∃ g, v3.ownBlock = some g ∧ w.heap.size ≤ g) (hv3lt : ∀ g, v3.ownBlock = some g → g < w'.heap.size)
    (hfr : Frame (fun j => j ≠ s.r ∧ some j ≠ v.ownBlock) w w')
    (hbag : ∃ xs : List Value, Tail w' 0 v3 ps.length xs ∧ ∀ (i : Nat) (u : Value) (b : List Int), xs[i]? = some u → ps[i]? = some b → RowOf encB 1 w' u b ∧ ∀ g, u.ownBlock = some g → g < w'.heap.size ∧ v3.ownBlock ≠ some g ∧ (Own s g → w.heap.size ≤ g) ∧ ¬ Z g) :
    NetAt w' x ⟨s.r, l', clock'⟩ (setB B k ps) Z M ∧ Step w s w' ⟨s.r, l', clock'⟩ := by
  have hown : ∀ j, Own ⟨s.r, l', clock'⟩ j → (Own s j ∧ (j = s.r ∨ ∃ e ∈ s.l, e.1 ≠ k ∧ e.2.1.ownBlock = some j)) ∨ (v3.ownBlock = some j ∧ (Own s j ∨ w.heap.size ≤ j)) := by
    rintro j (rfl | ⟨e, he, hej⟩)
    · exact .inl ⟨.inl rfl, .inl rfl⟩
    · rcases hl e he with ⟨h1, h2⟩ | ⟨h1, h2⟩
      · refine .inr ⟨by rw [← h2]; exact hej, ?_⟩
        rw [h2] at hej
        rcases hv3 with h3 | ⟨g, h3, h4⟩
        · exact .inl (hvo j (by rw [← h3]; exact hej)).1
        · rw [h3] at hej; injection hej with hej; subst hej; exact .inr h4
      · exact .inl ⟨.inr ⟨e, h1, hej⟩, .inr ⟨e, h1, h2, hej⟩⟩
  have hownlt : ∀ j, Own ⟨s.r, l', clock'⟩ j → j < w'.heap.size ∧ ¬ Z j := by
    intro j hj
    rcases hown j hj with ⟨h1, _⟩ | ⟨h1, h2⟩
    · exact ⟨Nat.lt_of_lt_of_le (h.lt j h1).1 hfr.size, (h.lt j h1).2⟩
    · refine ⟨hv3lt j h1, ?_⟩
      rcases h2 with h2 | h2
      · exact (h.lt j h2).2
      · intro hz; have := hZ j hz; omega
  have hxr : x ≠ s.r := fun e => h.free (.inl e)
  have hv3r : v3.ownBlock ≠ some s.r := by
    intro e
    rcases hv3 with h3 | ⟨g, h3, h4⟩
    · rw [h3] at e; exact (hvo _ e).2.1 rfl
    · rw [h3] at e; injection e with e; have := h.map.lt; omega
  have hv3e : ∀ e ∈ s.l, e.1 ≠ k → ∀ g, v3.ownBlock = some g → e.2.1.ownBlock ≠ some g := by
    intro e he hek g hg hge
    rcases hv3 with h3 | ⟨g', h3, h4⟩
    · exact (hvo g (by rw [← h3]; exact hg)).2.2 e he hek hge
    · rw [h3] at hg; injection hg with hg; subst hg
      have := (h.lt g' (.inr ⟨e, he, hge⟩)).1
      omega
  refine ⟨⟨hx, hm, hf', ?_, h.zx, hownlt, ?_, ?_, ?_, ?_, ?_, hlen⟩, ⟨rfl, ?_, ?_⟩⟩
  · intro hox
    rcases hown x hox with ⟨h1, _⟩ | ⟨_, h2 | h2⟩
    · exact h.free h1
    · exact h.free h2
    · have := h.box.lt; omega
  · intro e he
    rcases hl e he with ⟨_, h2⟩ | ⟨h1, _⟩
    · rw [h2]; exact hv3r
    · exact h.rne e h1
  · intro e he e' he' hne g hg hg'
    rcases hl e he with ⟨h1, h2⟩ | ⟨h1, h2⟩
    · rcases hl e' he' with ⟨h3, h4⟩ | ⟨h3, h4⟩
      · exact hne (h1.trans h3.symm)
      · rw [h2] at hg; exact hv3e e' h3 h4 g hg hg'
    · rcases hl e' he' with ⟨h3, h4⟩ | ⟨h3, h4⟩
      · rw [h4] at hg'; exact hv3e e h1 h2 g hg' hg
      · exact h.apart e h1 e' h3 hne g hg hg'
  · intro e he
    rcases hl e he with ⟨h1, h2⟩ | ⟨h1, h2⟩
    · rw [h1, h2, setB_same]
      obtain ⟨xs, ht, hp⟩ := hbag
      refine ⟨xs, ht, fun i u b hu hb => ?_⟩
      obtain ⟨q1, q2⟩ := hp i u b hu hb
      refine ⟨q1, fun g hg => ⟨(q2 g hg).1, ?_⟩⟩
      rintro (ho | hz)
      · rcases hown g ho with ⟨h3, h4⟩ | ⟨h3, _⟩
        · have := (q2 g hg).2.2.1 h3
          have := (h.lt g h3).1
          omega
        · exact (q2 g hg).2.1 h3
      · exact (q2 g hg).2.2.2 hz
    · rw [setB_other _ _ h2]
      refine (h.bag e h1).frame hfr (fun g hg => ⟨?_, ?_⟩) (fun g hg hC => ⟨⟨?_, ?_⟩, ?_⟩)
      · rintro rfl; exact h.rne e h1 hg
      · intro e2; exact (hvo g e2.symm).2.2 e h1 h2 hg
      · rintro rfl; exact hC (.inl (.inl rfl))
      · intro e2; exact hC (.inl (hvo g e2.symm).1)
      · rintro (ho | hz)
        · rcases hown g ho with ⟨h3, _⟩ | ⟨_, h3 | h3⟩
          · exact hC (.inl h3)
          · exact hC (.inl h3)
          · omega
        · exact hC (.inr hz)
  · intro k' hk'
    have hne : k' ≠ k := by
      rintro rfl
      obtain ⟨e', he', h1⟩ := hnew
      exact valOf_none hk' e' he' h1
    rw [setB_other _ _ hne]
    refine h.nobag k' ?_
    cases hv : valOf s.l k' with
    | none => rfl
    | some u =>
      obtain ⟨e, he, h1, _⟩ := valOf_some hv
      obtain ⟨e', he', h2⟩ := hold e he
      exact absurd (h2.trans h1) (valOf_none hk' e' he')
  · intro k'
    by_cases hk : k' = k
    · rw [hk, setB_same]; exact hps
    · rw [setB_other _ _ hk]; exact h.small k'
  · intro j hj
    rcases hown j hj with ⟨h1, _⟩ | ⟨_, h2⟩
    · exact .inl h1
    · exact h2
  · refine ⟨hfr.os, hfr.tape, hfr.output, hfr.size, fun j hj hA => hfr.block j hj ⟨fun e => hA (.inl e), fun e => hA (hvo j e.symm).1⟩⟩

/-- Send where the bag has room. -/
theorem c10net {w : World} {x : Nat} {s : NS} {B : Key → List (List Int)} {Z : Nat → Prop} {N : Nat} (h : NetAt w x s B Z N) (hZ : ∀ j, Z j → j < w.heap.size) (f t : Int) (b : Value) (bs : List Int) (hb : RowOf encB 1 w b bs) (hbs : bs.length ≤ 1000) (hr : (B (f, t)).length < 64) :
    Calls Try.prog 10 #[.pointer (some ⟨x, 0, none⟩), .int .i64 f, .int .i64 t, b] w fun e w' => e = .returned (.bool true) ∧ ∃ s', NetAt w' x s' (setB B (f, t) (B (f, t) ++ [bs])) Z (N + 1) ∧ Step w s w' s' := by
  obtain ⟨va, cp, xs, hv, ht, hp, ho⟩ := h.look (f, t)
  have hxr : x ≠ s.r := fun e => h.free (.inl e)
  refine (c10 x s.r s.l s.clock f t b bs va _ cp 0 xs w h.box h.map h.fresh hv ht hr hb hbs hxr (fun e => h.free (ho x e).1) (fun e => (ho _ e).2.1 rfl) (Nat.zero_le _) (fun g hg => (h.lt g (ho g hg).1).1)).mono ?_
  rintro e w' ⟨rfl, v3, pv, hX, hM, hT, hR, hv3, hpv, hF⟩
  refine ⟨rfl, ⟨s.r, _, _⟩, h.put hZ (f, t) (.slice va (B (f, t)).length cp) v3 (B (f, t) ++ [bs]) (by simp; omega) _ _ hX hM (h.fresh.touch _ _ |>.setVal _ _) (Nat.le_trans (touched_len _ _ _ _ _) (Nat.succ_le_succ h.keys)) (fun e he => mem_touched he) (fun e he => touched_old he) (touched_new _ _ _ _ _) ho hv3 ?_ hF ?_⟩
  · intro g hg
    obtain ⟨ao, cap, rfl, h1, h2, h3, h4, h5⟩ := hT
    obtain ⟨g', off, rfl, _, hlt, _⟩ := h5 (by omega)
    injection hg with hg
    rw [← hg]; exact hlt
  · refine ⟨_, by simpa using hT, fun i u b2 hu hb2 => ?_⟩
    have hl : xs.length = (B (f, t)).length := by obtain ⟨_, _, _, h1, _⟩ := ht; exact h1
    rcases Nat.lt_or_ge i xs.length with hi | hi
    · rw [List.getElem?_append_left hi] at hu
      rw [List.getElem?_append_left (by omega)] at hb2
      obtain ⟨q1, q2⟩ := hp i u b2 hu hb2
      refine ⟨q1.frame hF (fun g hg => ⟨?_, ?_⟩), fun g hg => ⟨Nat.lt_of_lt_of_le (q2 g hg).1 hF.size, ?_, fun ho2 => absurd (.inl ho2) (q2 g hg).2, fun hz => (q2 g hg).2 (.inr hz)⟩⟩
      · rintro rfl; exact (q2 _ hg).2 (.inl (.inl rfl))
      · intro e2; exact (q2 g hg).2 (.inl (ho g e2.symm).1)
      · intro e2
        rcases hv3 with h3 | ⟨g', h3, h4⟩
        · exact (q2 g hg).2 (.inl (ho g (by rw [← h3]; exact e2)).1)
        · rw [h3] at e2; injection e2 with e2; have := (q2 g hg).1; omega
    · rw [List.getElem?_append_right hi] at hu
      rw [List.getElem?_append_right (by omega)] at hb2
      have hi0 : i - xs.length = 0 := by
        have := (List.getElem?_eq_some_iff.1 hu).1
        simp at this; omega
      rw [hi0] at hu
      rw [← hl, hi0] at hb2
      simp at hu hb2
      subst hu hb2
      refine ⟨hR, fun g hg => ?_⟩
      obtain ⟨q1, q2, q3⟩ := hpv g hg
      exact ⟨q2, q3, fun _ => q1, fun hz => by have := hZ g hz; omega⟩
end Go.Proofs.Ytkkambhkfegodaa
