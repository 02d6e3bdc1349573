/- While a group begins its own: what holds of the cluster in memory. Conditions: each law's own. -/
import Derived.Test.YtamjdghjaimihaaAArgs
namespace Go.Proofs.Ytamjdghjaimihaa
open Go.ChangeShapes Go.WideShapes Go.ChangeAt Go.RowKit

theorem CAt.same {w w' : World} {c n : Nat} {m : CM} {B : Nat} (h : CAt w c n m B) (hs : w.heap.size ≤ w'.heap.size) (hb : ∀ i k, CZone c n m i k → w'.heap[k]? = w.heap[k]?) : CAt w' c n m B where
  n4 := h.n4
  box := by unfold VarAt; rw [hb 4 c (.inr (.inl ⟨rfl, rfl⟩))]; exact h.box
  ptr := h.ptr
  q := fun g hg => (h.q g hg).keep hs fun k _ hz => hb g k (.inl ⟨hg, hz⟩)
  all := ownsRow_keep h.all fun k hk => hb 5 k (.inr (.inr (.inl ⟨rfl, .inl hk⟩)))
  gs := fun z hz => ownsRow_keep (h.gs z hz) fun k hk => hb 5 k (.inr (.inr (.inl ⟨rfl, .inr ⟨z, hz, hk⟩⟩)))
  t := fun g hg => ownsRow_keep (h.t g hg) fun k hk => hb (6 + g) k (.inr (.inr (.inr (.inl ⟨g, hg, rfl, hk⟩))))
  f := fun g hg => ownsRow_keep (h.f g hg) fun k hk => hb (10 + g) k (.inr (.inr (.inr (.inr ⟨g, hg, rfl, hk⟩))))
  low := h.low
  sep := h.sep
structure BInv (m : CM) (g : Nat) : Prop where
  upto : Upto (allOf m) g
  begun : ∀ h : Nat, h < g → BegunOk (allOf m) h (m.S h)
  few : ∀ h : Nat, h < g → (m.S h).L.length ≤ m.A.length
  tu : ∀ i, m.T i = [] ∧ m.U i = []
theorem BInv.good {w : World} {c : Nat} {m : CM} {B : Nat} (h : BInv m 4) (hc : CAt w c 4 m B) : Good w c m B where
  at4 := hc
  tu := fun i => (h.tu i).2.trans (h.tu i).1.symm
  all := h.upto.all
  apart := h.upto.apart
  small := by have := h.upto.small; unfold allOf at this; rw [List.length_map] at this; exact this
  take := fun g hg => by rw [(h.tu g).1]; exact (h.begun g hg).take
  few := fun g hg => by rw [(h.tu g).1]; have := h.few g hg; simpa using this
structure BMid (w : World) (c B g d N ol n : Nat) (av : Value) (m : CM) (D : List Bool) : Prop where
  at_ : CAt w c (g + 1) m B
  mid : Midst (allOf m) g (m.S g) D n
  cnt : (m.S g).L.length = (D.filter id).length
  begun : ∀ h : Nat, h < g → BegunOk (allOf m) h (m.S h)
  few : ∀ h : Nat, h < g → (m.S h).L.length ≤ m.A.length
  tu : ∀ i, m.T i = [] ∧ m.U i = []
  hit : ∀ (k : Nat) (a : OneD), k + ol < n → (allOf m)[k]? = some a → (g : Int) ∈ a.groups → D[k]? = some true
  done : VarAt w d 4 (D.map Value.bool)
  dsep : ∀ i, ¬ CZone c (g + 1) m i d
  dlow : B ≤ d
  len : m.A.length = N
  av : m.av = av
theorem allOf_at {m : CM} {k : Nat} {y : RefO} (h : m.A[k]? = some y) : (allOf m)[k]? = some y.1 := by unfold allOf; rw [List.getElem?_map, h]; rfl
theorem count_set : ∀ {D : List Bool} {k : Nat}, D[k]? = some false → ((D.set k true).filter id).length = (D.filter id).length + 1
  | [], _, h => by simp at h
  | b :: D, 0, h => by simp at h; subst h; simp
  | b :: D, k + 1, h => by
    have := count_set (D := D) (k := k) (by simpa using h)
    cases b <;> simp [this]
section
variable {w w1 w2 : World} {c B g d N ol n : Nat} {av : Value} {m : CM} {D : List Bool}
theorem BMid.skip (h : BMid w c B g d N ol n av m D) (hs : ∀ (k : Nat) (a : OneD), k + ol = n → (allOf m)[k]? = some a → (g : Int) ∈ a.groups → D[k]? = some true) : BMid w c B g d N ol (n + 1) av m D :=
  ⟨h.at_, h.mid.more (Nat.le_succ _), h.cnt, h.begun, h.few, h.tu, fun k a hk ha hg => by
    rcases Nat.lt_or_ge (k + ol) n with h1 | h1
    · exact h.hit k a h1 ha hg
    · exact hs k a (by omega) ha hg, h.done, h.dsep, h.dlow, h.len, h.av⟩
theorem BMid.below {w' : World} (h : BMid w c B g d N ol n av m D) (hb : Below w.heap.size w w') : BMid w' c B g d N ol n av m D :=
  ⟨h.at_.below hb, h.mid, h.cnt, h.begun, h.few, h.tu, h.hit, h.done.keep hb h.done.lt, h.dsep, h.dlow, h.len, h.av⟩
theorem BMid.end_ (h : BMid w c B g d N ol n av m D) (hn : N + ol ≤ n) : BInv m (g + 1) ∧ CAt w c (g + 1) m B := by
  have hl : (allOf m).length = N := by unfold allOf; rw [List.length_map]; exact h.len
  obtain ⟨h1, h2⟩ := h.mid.done fun k a ha hg => h.hit k a (by have := (List.getElem?_eq_some_iff.1 ha).1; omega) ha hg
  refine ⟨⟨h1, fun i hi => ?_, fun i hi => ?_, h.tu⟩, h.at_⟩
  · by_cases e : i = g
    · subst e; exact h2
    · exact h.begun i (by omega)
  · by_cases e : i = g
    · subst e
      have h3 := h.mid.beg.len
      rw [hl] at h3
      have h4 : (D.filter id).length ≤ D.length := List.length_filter_le _ _
      rw [h.cnt, h.len]; omega
    · exact h.few i (by omega)
theorem BMid.mark (h : BMid w c B g d N ol n av m D) {k : Nat} (hw1 : w1 = w.setCell ⟨d, k, none⟩ (.bool true)) : CAt w1 c (g + 1) m B ∧ VarAt w1 d 4 ((D.set k true).map Value.bool) ∧ Below B w w1 := by
  have hs : ∀ j, j ≠ d → w1.heap[j]? = w.heap[j]? := fun j hj => by rw [hw1]; exact Below.heap_setCell _ _ _ j (by simpa using hj)
  refine ⟨h.at_.same (by rw [hw1]; simp) fun i j hz => hs j fun e => h.dsep i (e ▸ hz), ?_, ⟨by rw [hw1]; rfl, by rw [hw1]; rfl, by rw [hw1]; rfl, by rw [hw1]; simp, fun j hj => hs j (by have := h.dlow; omega)⟩⟩
  rw [hw1, List.map_set]
  exact h.done.set k _
theorem BMid.begins (h : BMid w c B g d N ol n av m D) (hg : g < 4) (hn : n < 1000) {k : Nat} {y : RefO} (hy : m.A[k]? = some y) (hd : D[k]? = some false) (hm : (g : Int) ∈ y.1.groups) : beginS g (m.S g) y.1.id y.1.groups = (((m.S g).clock + 1, 0), ⟨(m.S g).clock + 1, (m.S g).L ++ [newOne g ((m.S g).clock + 1) y.1.id y.1.groups]⟩) :=
  (h.mid.step hg hn (allOf_at hy) hd hm).1
theorem BMid.step (h : BMid w c B g d N ol n av m D) (hg : g < 4) (hn : n < 1000) {k : Nat} {y : RefO} (hy : m.A[k]? = some y) (hd : D[k]? = some false) (hm : (g : Int) ∈ y.1.groups) {lk lc : Nat} (hav : av = .slice (some ⟨lk, 0, none⟩) N lc)
    (hk : n < ol ∨ k + ol = n) (hw1 : w1 = w.setCell ⟨d, k, none⟩ (.bool true)) {M' : List MemO} {v' : Value} (hq : QAt w2 (m.x g) g ⟨(m.S g).clock + 1, (m.S g).L ++ [newOne g ((m.S g).clock + 1) y.1.id y.1.groups]⟩ M' v' B) (hs : QStep (m.x g) w1 (m.M g) (m.v g) w2 M' v') :
    ∃ m', BMid (w2.setCell ⟨lk, k * 7 + (3 + g), none⟩ (.int .u64 ((m.S g).clock + 1))) c B g d N ol (n + 1) av m' (D.set k true) ∧ Below B w (w2.setCell ⟨lk, k * 7 + (3 + g), none⟩ (.int .u64 ((m.S g).clock + 1))) := by
  obtain ⟨-, hmid⟩ := h.mid.step hg hn (allOf_at hy) hd hm
  obtain ⟨c1, d1, b1⟩ := h.mark hw1
  have hs1 : w1.heap.size = w.heap.size := by rw [hw1]; simp
  have hdl := h.done.lt
  have c2 := c1.qstep (by omega) hq hs
  have b2 := (c1.q g (by omega)).belowB hs
  have hlk : m.av.ownBlock = some lk := by rw [h.av, hav]; rfl
  have hdlk : d ≠ lk := fun e => h.dsep 5 (.inr (.inr (.inl ⟨rfl, .inl (by rw [hlk, e])⟩)))
  obtain ⟨c3, b3⟩ := c2.setKn (lk := lk) (lc := lc) (by show m.av = .slice _ m.A.length _; rw [h.av, hav, h.len]) hy hg ((m.S g).clock + 1)
  have hA : allOf { m with S := upd m.S g ⟨(m.S g).clock + 1, (m.S g).L ++ [newOne g ((m.S g).clock + 1) y.1.id y.1.groups]⟩, M := upd m.M g M', v := upd m.v g v', A := m.A.set k (setKn y.1 g ((m.S g).clock + 1), y.2) } = (allOf m).set k (setKn y.1 g ((m.S g).clock + 1)) := by
    unfold allOf; rw [List.map_set]
  refine ⟨_, ⟨c3, ?_, ?_, fun i hi => ?_, fun i hi => ?_, h.tu, fun k' a hk' ha hga => ?_, ?_, fun i hz => ?_, h.dlow, ?_, h.av⟩, b1.trans (b2.trans b3)⟩
  · rw [hA]; simp only [upd_same]; exact hmid
  · simp only [upd_same, List.length_append, List.length_cons, List.length_nil]
    rw [count_set hd, h.cnt]
  · rw [hA]
    have e : i ≠ g := by omega
    simp only [upd_ne _ _ e]
    exact (h.begun i hi).set (allOf_at hy) (by omega)
  · have e : i ≠ g := by omega
    simp only [upd_ne _ _ e, List.length_set]
    exact h.few i hi
  · rw [hA] at ha
    have hkD : k < D.length := (List.getElem?_eq_some_iff.1 hd).1
    by_cases e : k = k'
    · subst e; rw [List.getElem?_set_self hkD]
    · rw [List.getElem?_set_ne e] at ha ⊢
      exact h.hit k' a (by omega) ha hga
  · unfold VarAt at d1 ⊢
    rw [Below.heap_setCell _ _ _ d (by simpa using hdlk), hs.block d (by omega) fun ho => h.dsep g (.inl ⟨by omega, .inl ho⟩)]
    exact d1
  · rcases hz with ⟨h1, h2⟩ | hz | ⟨h1, hz | ⟨z, hz, hz2⟩⟩ | hz
    · by_cases e : i = g
      · subst e
        simp only [upd_same] at h2
        rcases hs.zone d h2 with h3 | h3
        · exact h.dsep i (.inl ⟨h1, h3⟩)
        · omega
      · simp only [upd_ne _ _ e] at h2
        exact h.dsep i (.inl ⟨h1, h2⟩)
    · exact h.dsep i (.inr (.inl hz))
    · exact h.dsep i (.inr (.inr (.inl ⟨h1, .inl hz⟩)))
    · rcases set_mem hy hz with rfl | hz
      · exact h.dsep i (.inr (.inr (.inl ⟨h1, .inr ⟨y, List.mem_of_getElem? hy, hz2⟩⟩)))
      · exact h.dsep i (.inr (.inr (.inl ⟨h1, .inr ⟨z, hz, hz2⟩⟩)))
    · exact h.dsep i (.inr (.inr (.inr hz)))
  · simp only [List.length_set]; exact h.len
theorem BMid.start (hc : CAt w c (g + 1) m B) (hi : BInv m g) (hS : m.S g = ⟨0, []⟩) {w' : World} {N : Nat} (hb : Below w.heap.size w w') (hd : VarAt w' d 4 ((List.replicate m.A.length false).map Value.bool)) (hdl : w.heap.size ≤ d) (hN : m.A.length = N) : BMid w' c B g d N ol 0 m.av m (List.replicate m.A.length false) where
  at_ := hc.below hb
  mid := by
    have h := hi.upto.midst
    have hl : (allOf m).length = m.A.length := by unfold allOf; simp
    rw [hl] at h
    rw [hS]; exact h
  cnt := by rw [hS]; simp
  begun := hi.begun
  few := hi.few
  tu := hi.tu
  hit := fun k a hk => by omega
  done := hd
  dsep := fun i hz => by have := (hc.zone hz).2; omega
  dlow := Nat.le_trans hc.low1 hdl
  len := hN
  av := rfl
end
end Go.Proofs.Ytamjdghjaimihaa
