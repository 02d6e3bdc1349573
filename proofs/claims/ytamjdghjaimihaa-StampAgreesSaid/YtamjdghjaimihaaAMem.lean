/- The cluster in memory while all begin: one more of all; one more queue; a stamp is set. Conditions: each law's own. -/
import Derived.Test.YtamjdghjaimihaaAAlike
import Derived.Test.YtamjdghjaimihaaABeg
import Derived.Test.YtamjdghjaimihaaLKit
import Derived.Laws.MakeOwn
namespace Go.Proofs.Ytamjdghjaimihaa
open Go.ChangeShapes Go.WideShapes Go.ChangeAt Go.RowKit

section
variable {w W1 W2 : World} {c n : Nat} {m : CM} {B : Nat}
theorem CAt.alone (h : CAt w c n m B) {g : Nat} (hg : g < n) {x : Nat} (hx : QZone (m.x g) (m.M g) (m.v g) x) : ∀ i, CZone c n m i x → i = g := fun i hi => h.sep i g x hi (.inl ⟨hg, hx⟩)
/-- One more of all. W1: where it was made; W2: behind the append. -/
theorem CAt.pushA (h : CAt w c n m B) (z : RefO) {v2 : Value} (hb1 : Below w.heap.size w W1) (hgs : W1.ownsRow w.heap.size 3 1 z.2 z.1.groups.length (z.1.groups.map (Value.int .i64)))
    (hT : W2.ownsRow B 55 7 v2 (m.A.length + 1) (m.A.flatMap encR ++ encR z)) (hgr : W1.grownBy W2 m.av.ownBlock) (hvv : v2.ownBlock = m.av.ownBlock ∨ ∃ k, v2.ownBlock = some k ∧ W1.heap.size ≤ k) :
    CAt (W2.setCell ⟨c, 4, none⟩ v2) c n { m with A := m.A ++ [z], av := v2 } B ∧ Below B w (W2.setCell ⟨c, 4, none⟩ v2) := by
  have hn := h.n4
  have hlow := h.low1
  have hcl := h.box.lt
  have hcav : m.av.ownBlock ≠ some c := fun e => by
    have := h.sep 4 5 c (.inr (.inl ⟨rfl, rfl⟩)) (.inr (.inr (.inl ⟨rfl, .inl e⟩))); omega
  have hsz : w.heap.size ≤ W2.heap.size := Nat.le_trans hb1.size hgr.size
  have ks : ∀ k, k ≠ c → (W2.setCell ⟨c, 4, none⟩ v2).heap[k]? = W2.heap[k]? := fun k hk => Below.heap_setCell _ _ _ k (by simpa using hk)
  have hK : CKeep w (W2.setCell ⟨c, 4, none⟩ v2) c n m (fun i => i = 4 ∨ i = 5) := ⟨by simpa using hsz, fun k hk hz => by
    rw [ks k fun e => hz 4 (.inl rfl) (.inr (.inl ⟨rfl, e⟩)), hgr.block k (Nat.lt_of_lt_of_le hk hb1.size) fun e => hz 5 (.inr rfl) (.inr (.inr (.inl ⟨rfl, .inl e.symm⟩)))]
    exact hb1.block k hk⟩
  have hz' : ∀ k, v2.ownBlock = some k → m.av.ownBlock = some k ∨ w.heap.size ≤ k := fun k hk => by
    rcases hvv with e | ⟨k', e, hk'⟩
    · exact .inl (e ▸ hk)
    · rw [hk] at e; cases e; exact .inr (Nat.le_trans hb1.size hk')
  have hgsl : ∀ y ∈ m.A, ∀ k, y.2.ownBlock = some k → (W2.setCell ⟨c, 4, none⟩ v2).heap[k]? = w.heap[k]? := fun y hy k hk => by
    have hkl := ((h.gs y hy).lt k hk).2
    have hkc : k ≠ c := fun e => by
      have := h.sep 4 5 c (.inr (.inl ⟨rfl, rfl⟩)) (.inr (.inr (.inl ⟨rfl, .inr ⟨y, hy, e ▸ hk⟩⟩))); omega
    have hkav : some k ≠ m.av.ownBlock := fun e => by
      obtain ⟨-, ⟨h3, -⟩ | ⟨g', cap', cur, h3, -, h4, -⟩⟩ := h.gs y hy
      · rw [h3] at hk; cases hk
      · rw [h3] at hk
        have hgk : g' = k := Option.some.inj hk
        obtain ⟨-, ⟨e3, -⟩ | ⟨g2, cap2, cur2, e3, -, e4, -⟩⟩ := h.all
        · rw [e3] at e; cases e
        · rw [e3] at e
          have hg2 : g2 = k := (Option.some.inj e).symm
          rw [hgk] at h4; rw [hg2, h4] at e4
          injection e4 with e4; injection e4 with e5 e6; cases e6
    rw [ks k hkc, hgr.block k (Nat.lt_of_lt_of_le hkl hb1.size) hkav]
    exact hb1.block k hkl
  have hnew : ∀ k, z.2.ownBlock = some k → (W2.setCell ⟨c, 4, none⟩ v2).heap[k]? = W1.heap[k]? ∧ w.heap.size ≤ k := fun k hk => by
    have hkl := hgs.lt k hk
    rw [ks k (by omega), hgr.block k hkl.2 fun e => by have := (h.all.lt k e.symm).2; omega]
    exact ⟨rfl, hkl.1⟩
  refine ⟨⟨h.n4, ?_, h.ptr, fun i hi => h.keepQ hK hi (by omega), ?_, fun y hy => ?_, fun g hg => h.keepT hK hg (by omega), fun g hg => h.keepF hK hg (by omega), h.low, h.sepTo (i1 := 5) fun j k hk => ?_⟩, ?_⟩
  · have h1 : VarAt W1 c 52 (encC m) := h.box.keep hb1 hcl
    exact (h1.grown hgr fun e => hcav e.symm).set 4 v2
  · have e1 : (m.A ++ [z]).length = m.A.length + 1 := by simp
    have e2 : (m.A ++ [z]).flatMap encR = m.A.flatMap encR ++ encR z := by rw [List.flatMap_append]; simp
    show World.ownsRow _ B 55 7 v2 (m.A ++ [z]).length ((m.A ++ [z]).flatMap encR)
    rw [e1, e2]
    refine ownsRow_keep hT fun k hk => ks k fun e => ?_
    rcases hz' k hk with h1 | h1
    · exact hcav (e ▸ h1)
    · omega
  · rcases List.mem_append.1 hy with h1 | h1
    · exact ownsRow_keep (h.gs y h1) (hgsl y h1)
    · simp at h1; subst h1
      exact own_lower (ownsRow_keep hgs fun k hk => (hnew k hk).1) hlow
  · rcases hk with hk | hk | ⟨hj, hk | ⟨y, hy, hk⟩⟩ | hk | hk
    · exact .inl (.inl hk)
    · exact .inl (.inr (.inl hk))
    · rcases hz' k hk with h1 | h1
      · exact .inl (.inr (.inr (.inl ⟨hj, .inl h1⟩)))
      · exact .inr ⟨hj, h1⟩
    · rcases List.mem_append.1 hy with h1 | h1
      · exact .inl (.inr (.inr (.inl ⟨hj, .inr ⟨y, h1, hk⟩⟩)))
      · simp at h1; subst h1
        exact .inr ⟨hj, (hnew k hk).2⟩
    · exact .inl (.inr (.inr (.inr (.inl hk))))
    · exact .inl (.inr (.inr (.inr (.inr hk))))
  · refine ⟨hgr.os.trans hb1.os, hgr.tape.trans hb1.tape, hgr.output.trans hb1.output, by simpa using hsz, fun k hk => ?_⟩
    rw [ks k (by have := h.low; omega), hgr.block k (Nat.lt_of_lt_of_le (Nat.lt_of_lt_of_le hk hlow) hb1.size) fun e => by have := (h.all.lt k e.symm).1; omega]
    exact hb1.block k (Nat.lt_of_lt_of_le hk hlow)
/-- One more queue. -/
theorem CAt.newQ (h : CAt w c n m B) (hn : n < 4) {x : Nat} (hb1 : Below w.heap.size w W1) (hx : VarAt W1 x 78 [.int .i64 n, .int .u64 0, .slice none 0 0]) (hxl : w.heap.size ≤ x) :
    CAt (W1.setCell ⟨c, n, none⟩ (.pointer (some ⟨x, 0, none⟩))) c (n + 1) { m with x := upd m.x n x, p := upd m.p n (.pointer (some ⟨x, 0, none⟩)), S := upd m.S n ⟨0, []⟩, M := upd m.M n [], v := upd m.v n (.slice none 0 0) } B ∧ Below B w (W1.setCell ⟨c, n, none⟩ (.pointer (some ⟨x, 0, none⟩))) := by
  have hlow := h.low1
  have hcl := h.box.lt
  have ks : ∀ k, k ≠ c → (W1.setCell ⟨c, n, none⟩ (.pointer (some ⟨x, 0, none⟩))).heap[k]? = W1.heap[k]? := fun k hk => Below.heap_setCell _ _ _ k (by simpa using hk)
  have hK : CKeep w (W1.setCell ⟨c, n, none⟩ (.pointer (some ⟨x, 0, none⟩))) c n m (fun i => i = 4) := ⟨by simpa using hb1.size, fun k hk hz => by
    rw [ks k fun e => hz 4 rfl (.inr (.inl ⟨rfl, e⟩))]; exact hb1.block k hk⟩
  refine ⟨⟨by omega, ?_, fun g hg => ?_, fun g hg => ?_, h.keepAll hK (by omega), fun z hz => h.keepGs hK (by omega) hz, fun i hi => h.keepT hK hi (by omega), fun i hi => h.keepF hK hi (by omega), h.low, ?_⟩, ?_⟩
  · have h1 : VarAt W1 c 52 (encC m) := h.box.keep hb1 hcl
    have h2 : (encC m).set n (.pointer (some ⟨x, 0, none⟩)) = encC { m with x := upd m.x n x, p := upd m.p n (.pointer (some ⟨x, 0, none⟩)), S := upd m.S n ⟨0, []⟩, M := upd m.M n [], v := upd m.v n (.slice none 0 0) } := by
      obtain rfl | rfl | rfl | rfl : n = 0 ∨ n = 1 ∨ n = 2 ∨ n = 3 := by omega
      all_goals rfl
    rw [← h2]; exact h1.set n _
  · by_cases e : g = n
    · subst e; simp only [upd_same]
    · simp only [upd_ne _ _ e]; exact h.ptr g (by omega)
  · by_cases e : g = n
    · subst e; simp only [upd_same]
      refine QAt.new ?_ (by omega) (Nat.le_trans hlow hxl)
      unfold VarAt; rw [ks x (by omega)]; exact hx
    · simp only [upd_ne _ _ e]; exact h.keepQ hK (by omega) (by omega)
  · have hz : ∀ j k, CZone c (n + 1) { m with x := upd m.x n x, p := upd m.p n (.pointer (some ⟨x, 0, none⟩)), S := upd m.S n ⟨0, []⟩, M := upd m.M n [], v := upd m.v n (.slice none 0 0) } j k → CZone c n m j k ∨ (j = n ∧ w.heap.size ≤ k) := fun j k hk => by
      rcases hk with ⟨h1, h2⟩ | hk
      · by_cases e : j = n
        · subst e
          simp only [upd_same] at h2
          have hkx : k = x := by
            rcases h2 with (h2 | h2 | ⟨_, h2, _⟩) | ⟨_, h2, _⟩
            · exact h2
            · cases h2
            · cases h2
            · cases h2
          exact .inr ⟨rfl, by omega⟩
        · simp only [upd_ne _ _ e] at h2
          exact .inl (.inl ⟨by omega, h2⟩)
      · exact .inl (.inr hk)
    exact h.sepTo (i1 := n) hz
  · refine ⟨hb1.os, hb1.tape, hb1.output, by simpa using hb1.size, fun k hk => ?_⟩
    rw [ks k (by have := h.low; omega)]; exact hb1.block k (Nat.lt_of_lt_of_le hk hlow)
/-- A stamp is set. -/
theorem CAt.setKn {lk lc : Nat} (h : CAt w c n m B) (hav : m.av = .slice (some ⟨lk, 0, none⟩) m.A.length lc) {k : Nat} {y : RefO} (hy : m.A[k]? = some y) {g : Nat} (hg : g < 4) (t : Int) :
    CAt (w.setCell ⟨lk, k * 7 + (3 + g), none⟩ (.int .u64 t)) c n { m with A := m.A.set k (setKn y.1 g t, y.2) } B ∧ Below B w (w.setCell ⟨lk, k * 7 + (3 + g), none⟩ (.int .u64 t)) := by
  have hn := h.n4
  have hlk : m.av.ownBlock = some lk := by rw [hav]; rfl
  have hlkB := h.all.lt lk hlk
  have ks : ∀ j, j ≠ lk → (w.setCell ⟨lk, k * 7 + (3 + g), none⟩ (.int .u64 t)).heap[j]? = w.heap[j]? := fun j hj => Below.heap_setCell _ _ _ j (by simpa using hj)
  have hK : CKeep w (w.setCell ⟨lk, k * 7 + (3 + g), none⟩ (.int .u64 t)) c n m (fun i => i = 5) := ⟨by simp, fun j hj hz => ks j fun e => hz 5 rfl (.inr (.inr (.inl ⟨rfl, .inl (by rw [hlk, e])⟩)))⟩
  have hmem : ∀ z ∈ m.A.set k (Go.Proofs.Ytamjdghjaimihaa.setKn y.1 g t, y.2), ∃ z' ∈ m.A, z'.2 = z.2 ∧ z'.1.groups = z.1.groups := fun z hz => by
    rcases set_mem hy hz with rfl | hz
    · exact ⟨y, List.mem_of_getElem? hy, rfl, rfl⟩
    · exact ⟨z, hz, rfl, rfl⟩
  refine ⟨⟨h.n4, h.keepBox hK (by omega), h.ptr, fun i hi => h.keepQ hK hi (by omega), ?_, fun z hz => ?_, fun i hi => h.keepT hK hi (by omega), fun i hi => h.keepF hK hi (by omega), h.low, fun i j x hi hj => ?_⟩, ?_⟩
  · have hrow := h.all
    rw [hav] at hrow
    have hs := (hrow.stored (k * 7 + (3 + g)) (.int .u64 t)).1
    rw [flat_set (k := (g : Int)) rfl hg hy] at hs
    show World.ownsRow _ B 55 7 m.av (m.A.set k _).length _
    rw [List.length_set, hav]; exact hs
  · obtain ⟨z', hz', e1, e2⟩ := hmem z hz
    rw [← e1, ← e2]
    refine ownsRow_keep (h.gs z' hz') fun j hj => ks j fun e => ?_
    subst e
    obtain ⟨-, ⟨h3, -⟩ | ⟨g', cap', cur, h3, -, h4, -⟩⟩ := h.gs z' hz'
    · rw [h3] at hj; cases hj
    · rw [h3] at hj
      have hgk : g' = j := Option.some.inj hj
      obtain ⟨-, ⟨e3, -⟩ | ⟨g2, cap2, cur2, e3, -, e4, -⟩⟩ := h.all
      · rw [e3] at hlk; cases hlk
      · rw [e3] at hlk
        have hg2 : g2 = j := Option.some.inj hlk
        rw [hgk] at h4; rw [hg2, h4] at e4
        injection e4 with e4; injection e4 with e5 e6; cases e6
  · have hz : ∀ i x, CZone c n { m with A := m.A.set k (Go.Proofs.Ytamjdghjaimihaa.setKn y.1 g t, y.2) } i x → CZone c n m i x := fun i x hx => by
      rcases hx with hx | hx | ⟨h1, hx | ⟨z, hz, hx⟩⟩ | hx
      · exact .inl hx
      · exact .inr (.inl hx)
      · exact .inr (.inr (.inl ⟨h1, .inl hx⟩))
      · obtain ⟨z', hz', e1, -⟩ := hmem z hz
        exact .inr (.inr (.inl ⟨h1, .inr ⟨z', hz', by rw [e1]; exact hx⟩⟩))
      · exact .inr (.inr (.inr hx))
    exact h.sep i j x (hz i x hi) (hz j x hj)
  · exact ⟨rfl, rfl, rfl, by simp, fun j hj => ks j (by omega)⟩
end
end Go.Proofs.Ytamjdghjaimihaa
