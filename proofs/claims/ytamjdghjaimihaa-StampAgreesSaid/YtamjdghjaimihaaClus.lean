/- Four queues and what they took, in memory. Conditions: each law's own. -/
import Derived.Test.YtamjdghjaimihaaBoth
import Derived.Test.YtamjdghjaimihaaALaw
namespace Go.Proofs.Ytamjdghjaimihaa
open Go.ChangeShapes Go.WideShapes Go.ChangeAt Go.RowKit

def upd {α : Type} (f : Nat → α) (g : Nat) (a : α) : Nat → α := fun i => if i = g then a else f i
theorem upd_same {α : Type} (f : Nat → α) (g : Nat) (a : α) : upd f g a g = a := if_pos rfl
theorem upd_ne {α : Type} (f : Nat → α) {g i : Nat} (a : α) (h : i ≠ g) : upd f g a i = f i := if_neg h
/-- A cluster: p, x: the queues' pointers; S, M, v: what the queues hold; A, av: all; T, t: what is taken; U, f: with which stamps. -/
structure CM where
  x : Nat → Nat
  p : Nat → Value
  S : Nat → QS
  M : Nat → List MemO
  v : Nat → Value
  A : List RefO
  av : Value
  T : Nat → List (IdD × Int)
  t : Nat → Value
  U : Nat → List (IdD × Int)
  f : Nat → Value
def encC (m : CM) : List Value := [m.p 0, m.p 1, m.p 2, m.p 3, m.av, m.t 0, m.t 1, m.t 2, m.t 3, m.f 0, m.f 1, m.f 2, m.f 3]
/-- Whose block k is. -/
def CZone (c n : Nat) (m : CM) (i k : Nat) : Prop :=
  (i < n ∧ QZone (m.x i) (m.M i) (m.v i) k) ∨ (i = 4 ∧ k = c) ∨ (i = 5 ∧ (m.av.ownBlock = some k ∨ ∃ a ∈ m.A, a.2.ownBlock = some k)) ∨
    (∃ g, g < 4 ∧ i = 6 + g ∧ (m.t g).ownBlock = some k) ∨ (∃ g, g < 4 ∧ i = 10 + g ∧ (m.f g).ownBlock = some k)
def idE (z : IdD × Int) : List Value := encId z.1
def stE (z : IdD × Int) : Value := .int .u64 z.2
structure CAt (w : World) (c n : Nat) (m : CM) (B : Nat) : Prop where
  n4 : n ≤ 4
  box : VarAt w c 52 (encC m)
  ptr : ∀ g, g < n → m.p g = .pointer (some ⟨m.x g, 0, none⟩)
  q : ∀ g : Nat, g < n → QAt w (m.x g) g (m.S g) (m.M g) (m.v g) B
  all : w.ownsRow B 55 7 m.av m.A.length (m.A.flatMap encR)
  gs : ∀ z ∈ m.A, w.ownsRow B 3 1 z.2 z.1.groups.length (z.1.groups.map (Value.int .i64))
  t : ∀ g, g < 4 → w.ownsRow B 31 2 (m.t g) (m.T g).length ((m.T g).flatMap idE)
  f : ∀ g, g < 4 → w.ownsRow B 26 1 (m.f g) (m.U g).length ((m.U g).map stE)
  low : B ≤ c
  sep : ∀ i j k, CZone c n m i k → CZone c n m j k → i = j
section
variable {w w' : World} {c n n' : Nat} {m m' : CM} {B : Nat}
theorem CAt.zone (h : CAt w c n m B) {i k : Nat} (hk : CZone c n m i k) : B ≤ k ∧ k < w.heap.size := by
  rcases hk with ⟨h1, h2⟩ | ⟨-, rfl⟩ | ⟨-, h2 | ⟨a, ha, h2⟩⟩ | ⟨g, hg, -, h2⟩ | ⟨g, hg, -, h2⟩
  · exact (h.q i h1).zone h2
  · exact ⟨h.low, h.box.lt⟩
  · exact h.all.lt k h2
  · exact (h.gs a ha).lt k h2
  · exact (h.t g hg).lt k h2
  · exact (h.f g hg).lt k h2
/-- What a step touches: blocks of I. -/
structure CKeep (w w' : World) (c n : Nat) (m : CM) (I : Nat → Prop) : Prop where
  size : w.heap.size ≤ w'.heap.size
  block : ∀ k, k < w.heap.size → (∀ i, I i → ¬ CZone c n m i k) → w'.heap[k]? = w.heap[k]?
theorem CAt.still (h : CAt w c n m B) {I : Nat → Prop} (hK : CKeep w w' c n m I) {i k : Nat} (hi : ¬ I i) (hk : CZone c n m i k) : w'.heap[k]? = w.heap[k]? :=
  hK.block k (h.zone hk).2 fun j hj hz => hi (by rw [h.sep i j k hk hz]; exact hj)
theorem CAt.keepBox (h : CAt w c n m B) {I : Nat → Prop} (hK : CKeep w w' c n m I) (hi : ¬ I 4) : VarAt w' c 52 (encC m) := by
  unfold VarAt
  rw [h.still hK hi (.inr (.inl ⟨rfl, rfl⟩))]; exact h.box
theorem CAt.keepQ (h : CAt w c n m B) {I : Nat → Prop} (hK : CKeep w w' c n m I) {g : Nat} (hg : g < n) (hi : ¬ I g) : QAt w' (m.x g) g (m.S g) (m.M g) (m.v g) B :=
  (h.q g hg).keep hK.size fun _ _ hz => h.still hK hi (.inl ⟨hg, hz⟩)
theorem CAt.keepAll (h : CAt w c n m B) {I : Nat → Prop} (hK : CKeep w w' c n m I) (hi : ¬ I 5) : w'.ownsRow B 55 7 m.av m.A.length (m.A.flatMap encR) :=
  ownsRow_keep h.all fun _ hz => h.still hK hi (.inr (.inr (.inl ⟨rfl, .inl hz⟩)))
theorem CAt.keepGs (h : CAt w c n m B) {I : Nat → Prop} (hK : CKeep w w' c n m I) (hi : ¬ I 5) {z : RefO} (hz : z ∈ m.A) : w'.ownsRow B 3 1 z.2 z.1.groups.length (z.1.groups.map (Value.int .i64)) :=
  ownsRow_keep (h.gs z hz) fun _ hk => h.still hK hi (.inr (.inr (.inl ⟨rfl, .inr ⟨z, hz, hk⟩⟩)))
theorem CAt.keepT (h : CAt w c n m B) {I : Nat → Prop} (hK : CKeep w w' c n m I) {g : Nat} (hg : g < 4) (hi : ¬ I (6 + g)) : w'.ownsRow B 31 2 (m.t g) (m.T g).length ((m.T g).flatMap idE) :=
  ownsRow_keep (h.t g hg) fun _ hz => h.still hK hi (.inr (.inr (.inr (.inl ⟨g, hg, rfl, hz⟩))))
theorem CAt.keepF (h : CAt w c n m B) {I : Nat → Prop} (hK : CKeep w w' c n m I) {g : Nat} (hg : g < 4) (hi : ¬ I (10 + g)) : w'.ownsRow B 26 1 (m.f g) (m.U g).length ((m.U g).map stE) :=
  ownsRow_keep (h.f g hg) fun _ hz => h.still hK hi (.inr (.inr (.inr (.inr ⟨g, hg, rfl, hz⟩))))
theorem CAt.sepTo (h : CAt w c n m B) {i1 : Nat} (hz : ∀ j k, CZone c n' m' j k → CZone c n m j k ∨ (j = i1 ∧ w.heap.size ≤ k)) : ∀ i j k, CZone c n' m' i k → CZone c n' m' j k → i = j := fun i j k hi hj => by
  rcases hz i k hi with h1 | ⟨h1, h1'⟩ <;> rcases hz j k hj with h2 | ⟨h2, h2'⟩
  · exact h.sep i j k h1 h2
  · have := (h.zone h1).2; omega
  · have := (h.zone h2).2; omega
  · rw [h1, h2]
theorem CAt.below (h : CAt w c n m B) (hb : Below w.heap.size w w') : CAt w' c n m B := by
  have hK : CKeep w w' c n m (fun _ => False) := ⟨hb.size, fun k hk _ => hb.block k hk⟩
  exact ⟨h.n4, h.keepBox hK id, h.ptr, fun g hg => h.keepQ hK hg id, h.keepAll hK id, fun z hz => h.keepGs hK id hz, fun g hg => h.keepT hK hg id, fun g hg => h.keepF hK hg id, h.low, h.sep⟩
/-- A queue's step. -/
theorem CAt.qstep (h : CAt w c n m B) {g : Nat} (hg : g < n) {S' : QS} {M' : List MemO} {v' : Value} (hq : QAt w' (m.x g) g S' M' v' B) (hs : QStep (m.x g) w (m.M g) (m.v g) w' M' v') :
    CAt w' c n { m with S := upd m.S g S', M := upd m.M g M', v := upd m.v g v' } B := by
  have hn := h.n4
  have hK : CKeep w w' c n m (fun i => i = g) := ⟨hs.size, fun k hk hz => hs.block k hk fun ho => hz g rfl (.inl ⟨hg, .inl ho⟩)⟩
  refine ⟨h.n4, h.keepBox hK (by omega), h.ptr, fun i hi => ?_, h.keepAll hK (by omega), fun z hz => h.keepGs hK (by omega) hz, fun i hi => h.keepT hK hi (by omega), fun i hi => h.keepF hK hi (by omega), h.low, h.sepTo (i1 := g) fun j k hk => ?_⟩
  · by_cases e : i = g
    · subst e; simp only [upd_same]; exact hq
    · simp only [upd_ne _ _ e]; exact h.keepQ hK hi e
  · rcases hk with ⟨h1, h2⟩ | hk
    · by_cases e : j = g
      · subst e
        simp only [upd_same] at h2
        rcases hs.zone k h2 with h3 | h3
        · exact .inl (.inl ⟨h1, h3⟩)
        · exact .inr ⟨rfl, h3⟩
      · simp only [upd_ne _ _ e] at h2
        exact .inl (.inl ⟨h1, h2⟩)
    · exact .inl (.inr hk)
theorem encC_at (m : CM) {g : Nat} (hg : g < 4) : (encC m)[g]? = some (m.p g) ∧ (encC m)[5 + g]? = some (m.t g) ∧ (encC m)[9 + g]? = some (m.f g) := by
  obtain rfl | rfl | rfl | rfl : g = 0 ∨ g = 1 ∨ g = 2 ∨ g = 3 := by omega
  all_goals exact ⟨rfl, rfl, rfl⟩
theorem encC_t (m : CM) {g : Nat} (hg : g < 4) (l : Nat → List (IdD × Int)) (u : Value) : (encC m).set (5 + g) u = encC { m with T := l, t := upd m.t g u } := by
  obtain rfl | rfl | rfl | rfl : g = 0 ∨ g = 1 ∨ g = 2 ∨ g = 3 := by omega
  all_goals rfl
theorem encC_f (m : CM) {g : Nat} (hg : g < 4) (l : Nat → List (IdD × Int)) (u : Value) : (encC m).set (9 + g) u = encC { m with U := l, f := upd m.f g u } := by
  obtain rfl | rfl | rfl | rfl : g = 0 ∨ g = 1 ∨ g = 2 ∨ g = 3 := by omega
  all_goals rfl
theorem set_keep {w w2 : World} {c j : Nat} {v : Value} {o : Option Nat} (hg : w.grownBy w2 o) : w.heap.size ≤ (w2.setCell ⟨c, j, none⟩ v).heap.size ∧ ∀ k, k < w.heap.size → k ≠ c → o ≠ some k → (w2.setCell ⟨c, j, none⟩ v).heap[k]? = w.heap[k]? := by
  refine ⟨by simpa using hg.size, fun k hk hc ho => ?_⟩
  rw [Below.heap_setCell _ _ _ k (by simpa using hc)]
  exact hg.block k hk fun e => ho e.symm
/-- One more is taken. -/
theorem CAt.pushT (h : CAt w c n m B) {g : Nat} (hg : g < 4) (z : IdD × Int) {W2 : World} {v2 : Value} (hT : W2.ownsRow B 31 2 v2 ((m.T g).length + 1) ((m.T g).flatMap idE ++ idE z)) (hgr : w.grownBy W2 (m.t g).ownBlock) (hvv : v2.ownBlock = (m.t g).ownBlock ∨ ∃ k, v2.ownBlock = some k ∧ w.heap.size ≤ k) :
    CAt (W2.setCell ⟨c, 5 + g, none⟩ v2) c n { m with T := upd m.T g (m.T g ++ [z]), t := upd m.t g v2 } B := by
  have hn := h.n4
  obtain ⟨hs, hb⟩ := set_keep (c := c) (j := 5 + g) (v := v2) hgr
  have hct : (m.t g).ownBlock ≠ some c := fun e => by
    have := h.sep 4 (6 + g) c (.inr (.inl ⟨rfl, rfl⟩)) (.inr (.inr (.inr (.inl ⟨g, hg, rfl, e⟩)))); omega
  have hK : CKeep w (W2.setCell ⟨c, 5 + g, none⟩ v2) c n m (fun i => i = 4 ∨ i = 6 + g) := ⟨hs, fun k hk hz => hb k hk (fun e => hz 4 (.inl rfl) (.inr (.inl ⟨rfl, e⟩))) fun e => hz (6 + g) (.inr rfl) (.inr (.inr (.inr (.inl ⟨g, hg, rfl, e⟩))))⟩
  have hz' : ∀ k, v2.ownBlock = some k → (m.t g).ownBlock = some k ∨ w.heap.size ≤ k := fun k hk => by
    rcases hvv with e | ⟨k', e, hk'⟩
    · exact .inl (e ▸ hk)
    · rw [hk] at e; cases e; exact .inr hk'
  refine ⟨h.n4, ?_, h.ptr, fun i hi => h.keepQ hK hi (by omega), h.keepAll hK (by omega), fun z hz => h.keepGs hK (by omega) hz, fun i hi => ?_, fun i hi => h.keepF hK hi (by omega), h.low, h.sepTo (i1 := 6 + g) fun j k hk => ?_⟩
  · rw [← encC_t m hg]
    exact (h.box.grown hgr fun e => hct e.symm).set (5 + g) v2
  · by_cases e : i = g
    · subst e
      simp only [upd_same, List.length_append, List.flatMap_append, List.length_cons, List.length_nil, List.flatMap_cons, List.flatMap_nil, List.append_nil]
      refine ownsRow_keep hT fun k hk => Below.heap_setCell _ _ _ k fun e => ?_
      simp only at e
      subst e
      rcases hz' k hk with h1 | h1
      · exact hct h1
      · have := h.box.lt; omega
    · simp only [upd_ne _ _ e]; exact h.keepT hK hi (by omega)
  · rcases hk with hk | hk | hk | ⟨g', hg', hj, hk⟩ | hk
    · exact .inl (.inl hk)
    · exact .inl (.inr (.inl hk))
    · exact .inl (.inr (.inr (.inl hk)))
    · by_cases e : g' = g
      · subst e
        simp only [upd_same] at hk
        rcases hz' k hk with h1 | h1
        · exact .inl (.inr (.inr (.inr (.inl ⟨g', hg', hj, h1⟩))))
        · exact .inr ⟨hj, h1⟩
      · simp only [upd_ne _ _ e] at hk
        exact .inl (.inr (.inr (.inr (.inl ⟨g', hg', hj, hk⟩))))
    · exact .inl (.inr (.inr (.inr (.inr hk))))
/-- One more stamp. -/
theorem CAt.pushF (h : CAt w c n m B) {g : Nat} (hg : g < 4) (z : IdD × Int) {W2 : World} {v2 : Value} (hT : W2.ownsRow B 26 1 v2 ((m.U g).length + 1) ((m.U g).map stE ++ [stE z])) (hgr : w.grownBy W2 (m.f g).ownBlock) (hvv : v2.ownBlock = (m.f g).ownBlock ∨ ∃ k, v2.ownBlock = some k ∧ w.heap.size ≤ k) :
    CAt (W2.setCell ⟨c, 9 + g, none⟩ v2) c n { m with U := upd m.U g (m.U g ++ [z]), f := upd m.f g v2 } B := by
  have hn := h.n4
  obtain ⟨hs, hb⟩ := set_keep (c := c) (j := 9 + g) (v := v2) hgr
  have hct : (m.f g).ownBlock ≠ some c := fun e => by
    have := h.sep 4 (10 + g) c (.inr (.inl ⟨rfl, rfl⟩)) (.inr (.inr (.inr (.inr ⟨g, hg, rfl, e⟩)))); omega
  have hK : CKeep w (W2.setCell ⟨c, 9 + g, none⟩ v2) c n m (fun i => i = 4 ∨ i = 10 + g) := ⟨hs, fun k hk hz => hb k hk (fun e => hz 4 (.inl rfl) (.inr (.inl ⟨rfl, e⟩))) fun e => hz (10 + g) (.inr rfl) (.inr (.inr (.inr (.inr ⟨g, hg, rfl, e⟩))))⟩
  have hz' : ∀ k, v2.ownBlock = some k → (m.f g).ownBlock = some k ∨ w.heap.size ≤ k := fun k hk => by
    rcases hvv with e | ⟨k', e, hk'⟩
    · exact .inl (e ▸ hk)
    · rw [hk] at e; cases e; exact .inr hk'
  refine ⟨h.n4, ?_, h.ptr, fun i hi => h.keepQ hK hi (by omega), h.keepAll hK (by omega), fun z hz => h.keepGs hK (by omega) hz, fun i hi => h.keepT hK hi (by omega), fun i hi => ?_, h.low, h.sepTo (i1 := 10 + g) fun j k hk => ?_⟩
  · rw [← encC_f m hg]
    exact (h.box.grown hgr fun e => hct e.symm).set (9 + g) v2
  · by_cases e : i = g
    · subst e
      simp only [upd_same, List.length_append, List.map_append, List.length_cons, List.length_nil, List.map_cons, List.map_nil]
      refine ownsRow_keep hT fun k hk => Below.heap_setCell _ _ _ k fun e => ?_
      simp only at e
      subst e
      rcases hz' k hk with h1 | h1
      · exact hct h1
      · have := h.box.lt; omega
    · simp only [upd_ne _ _ e]; exact h.keepF hK hi (by omega)
  · rcases hk with hk | hk | hk | hk | ⟨g', hg', hj, hk⟩
    · exact .inl (.inl hk)
    · exact .inl (.inr (.inl hk))
    · exact .inl (.inr (.inr (.inl hk)))
    · exact .inl (.inr (.inr (.inr (.inl hk))))
    · by_cases e : g' = g
      · subst e
        simp only [upd_same] at hk
        rcases hz' k hk with h1 | h1
        · exact .inl (.inr (.inr (.inr (.inr ⟨g', hg', hj, h1⟩))))
        · exact .inr ⟨hj, h1⟩
      · simp only [upd_ne _ _ e] at hk
        exact .inl (.inr (.inr (.inr (.inr ⟨g', hg', hj, hk⟩))))
end
end Go.Proofs.Ytamjdghjaimihaa
