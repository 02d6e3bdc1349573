/- One begins: what lies in memory. Conditions: each law's own. -/
import Derived.Test.YtamjdghjaimihaaQRaw
namespace Go.Proofs.Ytamjdghjaimihaa
open Go.ChangeShapes Go.WideShapes Go.ChangeAt Go.RowKit

/-- While one begins: the clock has gone on. -/
structure Mid (w W : World) (x I : Nat) (g c : Int) (v : Value) (id : IdD) : Prop where
  box : VarAt W x 78 [.int .i64 g, .int .u64 c, v]
  idb : VarAt W I 31 [.int .i64 id.s, .int .i64 id.q]
  fr : w.grownBy W (some x)
theorem Mid.below {w W W' : World} {x I : Nat} {g c : Int} {v : Value} {id : IdD} (h : Mid w W x I g c v id) (hb : Below W.heap.size W W') : Mid w W' x I g c v id :=
  ⟨h.box.keep hb h.box.lt, h.idb.keep hb h.idb.lt, h.fr.andThen (grown_below' hb) (fun j hj => by cases hj)⟩
where
  grown_below' {W W' : World} (hb : Below W.heap.size W W') : W.grownBy W' none := ⟨hb.os, hb.tape, hb.output, hb.size, fun k hk _ => hb.block k hk⟩
def QBegS (x I : Nat) (c : Int) (id : IdD) (v : Value) (W : World) : Prop := W.cell? ⟨x, 1, none⟩ = some (.int .u64 c) ∧ W.cell? ⟨I, 0, none⟩ = some (.int .i64 id.s) ∧ W.cell? ⟨I, 1, none⟩ = some (.int .i64 id.q) ∧ W.cell? ⟨x, 2, none⟩ = some v
theorem Mid.begS {w W : World} {x I : Nat} {g c : Int} {v : Value} {id : IdD} (h : Mid w W x I g c v id) : QBegS x I c id v W :=
  ⟨h.box.cell (j := 1) rfl, h.idb.cell (j := 0) rfl, h.idb.cell (j := 1) rfl, h.box.cell (j := 2) rfl⟩
section
variable {w : World} {x : Nat} {g : Int} {S : QS} {M : List MemO} {v : Value} {B : Nat}
theorem QAt.xp (h : QAt w x g S M v B) {y : MemO} (hy : y ∈ M) : y.p ≠ x := fun e => by
  have h1 := h.box; have h2 := (h.ones y hy).box
  unfold VarAt at h1 h2
  rw [e, h1] at h2
  injection h2 with h2; injection h2 with h3 h4; cases h4
theorem QAt.xm (h : QAt w x g S M v B) {y : MemO} (hy : y ∈ M) : y.m ≠ x := fun e => by
  have h1 := h.box; have h2 := (h.ones y hy).map
  unfold VarAt at h1; unfold IMap at h2
  rw [e, h1] at h2
  injection h2 with h2; cases h2
theorem QAt.xg (h : QAt w x g S M v B) {y : MemO} (hy : y ∈ M) : y.gs.ownBlock ≠ some x := fun hk => by
  obtain ⟨-, ⟨h3, -⟩ | ⟨g', cap', cur, h3, -, h4, -⟩⟩ := (h.ones y hy).row
  · rw [h3] at hk; cases hk
  · rw [h3] at hk
    have hgk : g' = x := Option.some.inj hk
    have h1 := h.box
    unfold VarAt at h1
    rw [hgk, h1] at h4
    injection h4 with h4; injection h4 with h5 h6; cases h6
/-- All but the queue's own box is as it was. -/
theorem QAt.rowMid (h : QAt w x g S M v B) {W : World} (hf : w.grownBy W (some x)) : Tail W B v M.length (M.map ptr) :=
  h.row.keep hf.size fun k hk _ hlt => hf.block k hlt fun e => (h.sep k hk).1 (Option.some.inj e)
theorem QAt.onesMid (h : QAt w x g S M v B) {W : World} (hf : w.grownBy W (some x)) {y : MemO} (hy : y ∈ M) : OneAt W g B y :=
  (h.ones y hy).keep (hf.block _ (h.ones y hy).box.lt fun e => h.xp hy (Option.some.inj e)) (hf.block _ (h.ones y hy).map.lt fun e => h.xm hy (Option.some.inj e)) fun k hk => hf.block k ((h.ones y hy).row.lt k hk).2 fun e => h.xg hy (by rw [hk, e])
/-- Behind the append: all is there, and only the queue's box does not know of it. -/
def QGot (w : World) (x I : Nat) (g : Int) (S : QS) (M : List MemO) (v : Value) (B : Nat) (id : IdD) (groups : List Int) (v2 : Value) (w2 : World) : Prop :=
  VarAt w2 x 78 [.int .i64 g, .int .u64 (S.clock + 1), v] ∧ VarAt w2 I 31 [.int .i64 id.s, .int .i64 id.q] ∧ ∃ M2 : List MemO, M2.length = M.length + 1 ∧
    QRaw (w2.setCell ⟨x, 2, none⟩ v2) x g ⟨S.clock + 1, S.L ++ [newOne g (S.clock + 1) id groups]⟩ M2 v2 B ∧ QStep x w M v (w2.setCell ⟨x, 2, none⟩ v2) M2 v2
theorem QAt.got (h : QAt w x g S M v B) {W1 w2 : World} {I p m : Nat} {gs v2 : Value} {id : IdD} {groups : List Int} (hr : Right g groups) (hno : ∀ o ∈ S.L, o.id ≠ id) (hc : S.clock < mostS)
    (hM : Mid w W1 x I g (S.clock + 1) v id) (hI : I ≠ x ∧ v.ownBlock ≠ some I) (hp : VarAt W1 p 84 (encOne id.s id.q gs (S.clock + 1) (.map (some m)) ((groups.length : Int) == 1))) (hm : W1.heap[m]? = some (.map #[] 0)) (hgs : W1.ownsRow w.heap.size 3 1 gs groups.length (groups.map (Value.int .i64)))
    (hpw : w.heap.size ≤ p) (hmw : w.heap.size ≤ m) (hT : Tail w2 B v2 (M.length + 1) (M.map ptr ++ [.pointer (some ⟨p, 0, none⟩)])) (hg : W1.grownBy w2 v.ownBlock) (hvv : v2.ownBlock = v.ownBlock ∨ ∃ k, v2.ownBlock = some k ∧ W1.heap.size ≤ k) :
    QGot w x I g S M v B id groups v2 w2 := by
  have hBw : B ≤ w.heap.size := Nat.le_of_lt (Nat.lt_of_le_of_lt h.lowX h.box.lt)
  have hvlt : ∀ k, v.ownBlock = some k → k < w.heap.size := fun k hk => (h.lowR k hk).2
  have hvx : some x ≠ v.ownBlock := fun e => (h.sep x e.symm).1 rfl
  have hbox2 := hM.box.grown hg hvx
  have hxlt : x < w.heap.size := h.box.lt
  have hW1 := hM.fr.size
  have hgsl := hgs.lt
  have hmlt : m < W1.heap.size := (Array.getElem?_eq_some_iff.1 hm).1
  obtain ⟨k2, hk2, hk2l, hk2B⟩ := tail_own hT
  have hk2c : v.ownBlock = some k2 ∨ W1.heap.size ≤ k2 := by
    rcases hvv with e | ⟨k, e, hk⟩
    · left; rw [← e]; exact hk2
    · right; rw [hk2] at e; cases e; exact hk
  have hk2x : k2 ≠ x := by
    rcases hk2c with e | e
    · exact (h.sep k2 e).1
    · omega
  have hk2p : k2 ≠ p ∧ k2 ≠ m ∧ gs.ownBlock ≠ some k2 := by
    have hpl := hp.lt
    rcases hk2c with e | e
    · have := hvlt k2 e
      refine ⟨by omega, by omega, fun e2 => ?_⟩
      have := (hgsl k2 e2).1; omega
    · refine ⟨by omega, by omega, fun e2 => ?_⟩
      have := (hgsl k2 e2).2; omega
  -- a block that is neither the box nor the row is as it was in W1, behind the store too
  have keep2 : ∀ k, k < W1.heap.size → v.ownBlock ≠ some k → k ≠ x → (w2.setCell ⟨x, 2, none⟩ v2).heap[k]? = W1.heap[k]? := fun k hk hn hx => by
    rw [Below.heap_setCell _ _ _ k (by simpa using hx)]; exact hg.block k hk (fun e => hn e.symm)
  let y' : MemO := ⟨newOne g (S.clock + 1) id groups, p, m, [], 0, gs⟩
  have hone' : OneAt (w2.setCell ⟨x, 2, none⟩ v2) g B y' := by
    have hc0 := h.ok.clock0
    have h1 : OneAt W1 g B y' := by
      refine ⟨?_, ?_, hm, IFresh.nil, fun k hk => ?_, rfl, by show B ≤ p; omega, by show B ≤ m; omega⟩
      · show VarAt W1 p 84 (encOne id.s id.q gs ((newOne g (S.clock + 1) id groups).kn g) (.map (some m)) (final (newOne g (S.clock + 1) id groups)))
        rw [final_new hr (by omega)]
        have : (newOne g (S.clock + 1) id groups).kn g = S.clock + 1 := by simp [newOne]
        rw [this]; exact hp
      · obtain ⟨a1, a2⟩ := hgs
        exact ⟨a1, a2.imp _root_.id fun ⟨k, cap, cur, a, b, c⟩ => ⟨k, cap, cur, a, Nat.le_trans hBw b, c⟩⟩
      · show valI [] k = _
        have : (newOne g (S.clock + 1) id groups).kn k = 0 := by simp [newOne, hk]
        rw [this]; rfl
    refine h1.keep (keep2 p hp.lt (fun e => by have := hvlt p e; omega) (by omega)) (keep2 m hmlt (fun e => by have := hvlt m e; omega) (by omega)) fun k hk => ?_
    have hkl := hgsl k hk
    exact keep2 k hkl.2 (fun e => by have := hvlt k e; omega) (by omega)
  have hone : ∀ y ∈ M, OneAt (w2.setCell ⟨x, 2, none⟩ v2) g B y := fun y hy => by
    have h0 := h.ones y hy
    have h1 := h.onesMid hM.fr hy
    refine h1.keep (keep2 _ h1.box.lt (fun e => ((h.sep _ e).2 y hy).1 rfl) (h.xp hy)) (keep2 _ h1.map.lt (fun e => ((h.sep _ e).2 y hy).2.1 rfl) (h.xm hy)) fun k hk => ?_
    exact keep2 k (h1.row.lt k hk).2 (fun e => ((h.sep k e).2 y hy).2.2 hk) (fun e => h.xg hy (by rw [hk, e]))
  refine ⟨hbox2, hM.idb.grown hg (fun e => hI.2 e.symm), M ++ [y'], by simp, ⟨hbox2.set 2 v2, ?_, ?_, h.ok.begin h.g0 hr hno hc, ?_, ?_, fun k hk => ?_, h.lowX, fun k hk => ?_, h.g0⟩, ?_⟩
  · rw [List.map_append, List.length_append]
    exact hT.other (by rw [hk2]; simpa using hk2x) v2
  · rw [List.map_append, h.lst]
    exact (ord_perm g S.L).append_right _
  · intro y hy
    rcases List.mem_append.1 hy with h1 | h1
    · exact hone y h1
    · simp at h1; subst h1; exact hone'
  · rw [List.pairwise_append]
    refine ⟨h.maps, List.pairwise_singleton _ _, fun a ha b hb => ?_⟩
    simp at hb; subst hb
    have := (h.ones a ha).map.lt
    show a.m ≠ m; omega
  · rw [hk2] at hk; cases hk
    refine ⟨hk2x, fun y hy => ?_⟩
    rcases List.mem_append.1 hy with h1 | h1
    · rcases hk2c with e | e
      · exact (h.sep k2 e).2 y h1
      · have h0 := h.ones y h1
        have l1 := h0.box.lt; have l2 := h0.map.lt
        refine ⟨by omega, by omega, fun e2 => ?_⟩
        have := (h0.row.lt k2 e2).2; omega
    · simp at h1; subst h1; exact hk2p
  · rw [hk2] at hk; cases hk
    exact ⟨hk2B, by simpa using hk2l⟩
  · refine ⟨hg.os.trans hM.fr.os, hg.tape.trans hM.fr.tape, hg.output.trans hM.fr.output, by simpa using Nat.le_trans hM.fr.size hg.size, fun k hk hn => ?_, fun k hk => ?_, fun k hk => ?_⟩
    · have hkx : k ≠ x := fun e => hn (.inl e)
      rw [keep2 k (Nat.lt_of_lt_of_le hk hW1) (fun e => hn (.inr (.inl e))) hkx]
      exact hM.fr.block k hk fun e => hkx (Option.some.inj e)
    · rcases hk with rfl | hk | ⟨y, hy, hk⟩
      · exact .inl (.inl rfl)
      · rw [hk2] at hk; cases hk
        rcases hk2c with e | e
        · exact .inl (.inr (.inl e))
        · right; omega
      · rcases List.mem_append.1 hy with h1 | h1
        · exact .inl (.inr (.inr ⟨y, h1, hk⟩))
        · simp at h1; subst h1
          right
          rcases hk with rfl | rfl
          · exact hpw
          · exact hmw
    · rcases hk with (rfl | hk | ⟨y, hy, hk⟩) | ⟨y, hy, hk⟩
      · exact .inl (.inl (.inl rfl))
      · rw [hk2] at hk; cases hk
        rcases hk2c with e | e
        · exact .inl (.inl (.inr (.inl e)))
        · right; omega
      · rcases List.mem_append.1 hy with h1 | h1
        · exact .inl (.inl (.inr (.inr ⟨y, h1, hk⟩)))
        · simp at h1; subst h1
          right
          rcases hk with rfl | rfl
          · exact hpw
          · exact hmw
      · rcases List.mem_append.1 hy with h1 | h1
        · exact .inl (.inr ⟨y, h1, hk⟩)
        · simp at h1; subst h1
          right
          exact (hgsl k hk).1
end
end Go.Proofs.Ytamjdghjaimihaa
