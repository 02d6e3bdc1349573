/- A group takes what is next, as long as there is any. Conditions: each law's own. -/
import Derived.Test.YtamjdghjaimihaaClus
namespace Go.Proofs.Ytamjdghjaimihaa
open Go.ChangeShapes Go.WideShapes Go.ChangeAt Go.RowKit

def allOf (m : CM) : List OneD := m.A.map (·.1)
/-- All is well in the cluster. -/
structure Good (w : World) (c : Nat) (m : CM) (B : Nat) : Prop where
  at4 : CAt w c 4 m B
  tu : ∀ i, m.U i = m.T i
  all : ∀ a ∈ allOf m, AllOk a
  apart : Apart (allOf m)
  small : m.A.length ≤ 20
  take : ∀ g : Nat, g < 4 → TakeOk (allOf m) g (m.S g) (m.T g)
  few : ∀ g, g < 4 → (m.S g).L.length + (m.T g).length ≤ m.A.length
structure Goes (m m' : CM) : Prop where
  A : m'.A = m.A
  av : m'.av = m.av
  behind : ∀ g, Then (m.S g) (m'.S g)
theorem Goes.refl (m : CM) : Goes m m := ⟨rfl, rfl, fun _ => .refl _⟩
theorem Goes.trans {m m1 m2 : CM} (h : Goes m m1) (h2 : Goes m1 m2) : Goes m m2 := ⟨h2.A.trans h.A, h2.av.trans h.av, fun g => (h.behind g).trans (h2.behind g)⟩
theorem Good.below {w w' : World} {c : Nat} {m : CM} {B : Nat} (h : Good w c m B) (hb : Below w.heap.size w w') : Good w' c m B := ⟨h.at4.below hb, h.tu, h.all, h.apart, h.small, h.take, h.few⟩
/-- One is taken. -/
theorem Good.took {w w' : World} {c : Nat} {m : CM} {B g : Nat} (h : Good w c m B) (hg : g < 4) {x : IdD × Int} (hn : nextS g (m.S g) = some x) {M' : List MemO} {v' t' f' : Value}
    (hc : CAt w' c 4 { m with S := upd m.S g (doneS g (m.S g) x.1).2, M := upd m.M g M', v := upd m.v g v', T := upd m.T g (m.T g ++ [x]), t := upd m.t g t', U := upd m.U g (m.U g ++ [x]), f := upd m.f g f' } B) :
    Good w' c { m with S := upd m.S g (doneS g (m.S g) x.1).2, M := upd m.M g M', v := upd m.v g v', T := upd m.T g (m.T g ++ [x]), t := upd m.t g t', U := upd m.U g (m.U g ++ [x]), f := upd m.f g f' } B ∧
      (∀ o ∈ (doneS g (m.S g) x.1).2.L, o ∈ (m.S g).L) ∧ (doneS g (m.S g) x.1).2.L.length + 1 = (m.S g).L.length := by
  have hg4 : 0 ≤ (g : Int) ∧ (g : Int) < 4 := by omega
  obtain ⟨-, h1, h2, h3⟩ := (h.take g hg).take hg4 h.all h.apart hn
  refine ⟨⟨hc, fun i => ?_, h.all, h.apart, h.small, fun i hi => ?_, fun i hi => ?_⟩, h2, h3⟩
  · simp only [upd]
    split
    · rw [h.tu]
    · exact h.tu i
  · simp only [upd]
    split
    · rename_i e; subst e; exact h1
    · exact h.take i hi
  · simp only [upd]
    split
    · rename_i e; subst e; have := h.few i hi; simp only [List.length_append, List.length_cons, List.length_nil]; omega
    · exact h.few i hi
theorem grown_belowB {w w2 : World} {c j B : Nat} {v : Value} {o : Option Nat} (hg : w.grownBy w2 o) (ho : ∀ k, o = some k → B ≤ k) (hc : B ≤ c) (hB : B ≤ w.heap.size) : Below B w (w2.setCell ⟨c, j, none⟩ v) :=
  ⟨hg.os, hg.tape, hg.output, by simpa using hg.size, fun k hk => by
    rw [Below.heap_setCell _ _ _ k (by show k ≠ c; omega)]
    exact hg.block k (by omega) fun e => by have := ho k e.symm; omega⟩
theorem QAt.belowB {w w' : World} {x : Nat} {g : Int} {S : QS} {M M' : List MemO} {v v' : Value} {B : Nat} (h : QAt w x g S M v B) (hs : QStep x w M v w' M' v') : Below B w w' :=
  ⟨hs.os, hs.tape, hs.output, hs.size, fun k hk => hs.block k (by have := h.lowX; have := h.box.lt; omega) fun ho => by have := (h.zone (.inl ho)).1; omega⟩
theorem upd_goes {m m' : CM} {g : Nat} {S' : QS} (hA : m'.A = m.A) (hav : m'.av = m.av) (hS : m'.S = upd m.S g S') (hs : ∀ o ∈ S'.L, o ∈ (m.S g).L) : Goes m m' := ⟨hA, hav, fun i => by
  rw [hS]
  unfold upd
  split
  · rename_i e; subst e; exact .sub hs
  · exact .refl _⟩
theorem und49 : Try.prog.underlying 49 = some (.slice 26) := by kernel_rfl
theorem info26 : (Try.prog.info? 26).map (fun i => (i.zero, i.size, i.bytes)) = some (some (.int .u64 0), 1, 8) := by kernel_rfl
def TakeEnd (c g : Nat) (m : CM) (B : Nat) (w : World) (e : Ending) (w' : World) : Prop :=
  e = .returned (.tuple #[]) ∧ ∃ m', Good w' c m' B ∧ Goes m m' ∧ ((∀ o ∈ (m.S g).L, final o = true) → (m'.S g).L = []) ∧ Below B w w'
def TakeRel (c g : Nat) (m : CM) (B : Nat) (w : World) (i : Value) (wr : World) : Prop :=
  ∃ (k : Nat) (m' : CM), i = .int .i64 k ∧ Good wr c m' B ∧ Goes m m' ∧ (∀ o ∈ (m'.S g).L, o ∈ (m.S g).L) ∧ (m'.S g).L.length + k = (m.S g).L.length ∧ Below B w wr
theorem CAt.low1 {w : World} {c n : Nat} {m : CM} {B : Nat} (h : CAt w c n m B) : B ≤ w.heap.size := Nat.le_of_lt (Nat.lt_of_le_of_lt h.low h.box.lt)
/-- What an append into a cell of the cluster reads. -/
def TakS (c a n : Nat) (v : Value) (us : List Value) (W : World) : Prop := VarAt W n 31 us ∧ W.cell? ⟨c, a, none⟩ = some v ∧ c < W.heap.size
set_option maxHeartbeats 8000000 in
set_option maxRecDepth 1000000 in
theorem c39 {w : World} {c g : Nat} {m : CM} {B : Nat} (h : Good w c m B) (hg : g < 4) : Calls Try.prog 39 #[.pointer (some ⟨c, 0, none⟩), .int .i64 g] w (TakeEnd c g m B w) := by
  refine gen (S := TakeEnd c g m B w) fun R hR => ?_
  have H := Lib.hid h
  have HR := Lib.hid hR
  have hgi : (g : Int) < 4 := by omega
  have hg0 : ¬ (g : Int) < 0 := by omega
  clear hR h
  go_enter Try.func39, Try.ntmps39
  go_wp2
  go_loopw [4] (TakeRel c g m B w) (fun i _ => 22 - (intOf i).toNat)
  case atStart => exact ⟨0, m, rfl, H.out, Goes.refl m, fun _ h => h, by omega, Below.refl _ _⟩
  case round =>
    obtain ⟨k, m', rfl, hG, hgo, hsub, hlen, hb⟩ := hrel
    have H1 := Lib.hid hG
    have HGO := Lib.hid hgo
    have HSUB := Lib.hid hsub
    have HLEN := Lib.hid hlen
    have HB := Lib.hid hb
    have hk20 : k ≤ m'.A.length := by have := H.out.few g hg; rw [hgo.A]; omega
    have hlo : ∃ a cap, m'.av = .slice a m'.A.length cap := owns_slice' hG.at4.all
    obtain ⟨aa, ac, hav⟩ := hlo
    have k0 := hG.at4.box.cell (j := 4) rfl
    have kl := hG.at4.box.lt
    rw [hav] at k0
    have kq := hG.at4.box.cell (encC_at m' hg).1
    rw [hG.at4.ptr g hg] at kq
    have hkI : (k : Int) ≤ (m'.A.length : Int) := by omega
    have hA20 : m'.A.length ≤ 20 := hG.small
    have hG0 := hG
    clear hG hgo hsub hlen hb hav
    have h13 := c13 (hG0.at4.q g hg)
    have hg4 : 0 ≤ (g : Int) ∧ (g : Int) < 4 := by omega
    clear hG0
    cases hnx : nextS g (m'.S g) with
    | none =>
      rw [hnx] at h13
      unfold nextV at h13
      have H13 := Lib.hid h13
      have HFIN := Lib.hid (show (∀ o ∈ (m.S g).L, final o = true) → (m'.S g).L = [] from fun hall => none_left hnx fun o ho => hall o (HSUB.out o ho))
      clear h13 hnx
      go_upto_region 4 with (first | (go_at_call 13; refine H13.out.mono ?_; rintro e w2 ⟨rfl, hb2⟩; have HB2 := Lib.hid hb2; clear hb2) | fail)
      go_quiet (fail)
      go_wp2
      have HBW := Lib.hid (show Below wr.heap.size wr ((w2.alloc (.cells #[.int .i64 0, .int .i64 0] 31)).drewN nq) from (HB2.out.alloc HB2.out.size _).trans ((drewN_below _ nq).mono (by simpa using Nat.le_succ_of_le HB2.out.size)))
      refine bodyPost_ret (results_none rfl _ _ _) rfl (HR.out _ _ ⟨rfl, m', H1.out.below HBW.out, HGO.out, HFIN.out, HB.out.trans (HBW.out.mono H1.out.at4.low1)⟩)
    | some p =>
      obtain ⟨id, sv⟩ := p
      rw [hnx] at h13
      unfold nextV at h13
      simp only at h13
      have H13 := Lib.hid h13
      have HNX := Lib.hid hnx
      clear h13 hnx
      go_upto_region 4 with (first | (go_at_call 13; refine H13.out.mono ?_; rintro e w2 ⟨rfl, hb2⟩; have HB2 := Lib.hid hb2; clear hb2) | fail)
      obtain ⟨n1, hn1⟩ : ∃ n, n = w2.heap.size := ⟨_, rfl⟩
      generalize hW3 : World.alloc w2 _ = W3
      have hb3 : Below wr.heap.size wr W3 := by rw [← hW3]; exact HB2.out.alloc HB2.out.size _
      have hN3 : VarAt W3 n1 31 [.int .i64 id.s, .int .i64 id.q] := by rw [← hW3, hn1]; exact VarAt.new w2 31 _
      have hnl : wr.heap.size ≤ n1 := by rw [hn1]; exact HB2.out.size
      rw [← hn1]
      have h3 := H1.out.below hb3
      have hb3d : Below W3.heap.size W3 W3.drew := (Below.refl _ _).drew
      have h14 := c14 ((h3.at4.q g hg).below hb3d) id
      obtain ⟨hdt, -⟩ := (H1.out.take g hg).take hg4 H1.out.all H1.out.apart HNX.out
      simp only at hdt
      rw [hdt] at h14
      have H14 := Lib.hid h14
      have H3 := Lib.hid h3
      have HN3 := Lib.hid hN3
      have HNL := Lib.hid hnl
      have HB3 := Lib.hid hb3
      have hS0 : TakS c g n1 (.pointer (some ⟨m'.x g, 0, none⟩)) [.int .i64 id.s, .int .i64 id.q] W3.drew := ⟨hN3.keep hb3d hN3.lt, by rw [← h3.at4.ptr g hg]; exact (h3.at4.box.keep hb3d h3.at4.box.lt).cell (encC_at m' hg).1, by simpa using h3.at4.box.lt⟩
      clear hW3 hn1 hb3 hN3 hnl h3 h14 hdt hb3d kq k0 kl HB2
      refine wp_region_noPanic ?_
      refine till_start (TakS c g n1 (.pointer (some ⟨m'.x g, 0, none⟩)) [.int .i64 id.s, .int .i64 id.q]) 12 (by kernel_rfl) ?_
      have hS := hS0
      show AnyTill _ _ _ _ _ _ 13 (Array.replicate 13 false) _ _
      refine till_take 0 (v := ?_) rfl (by kernel_rfl) (fun _ _ _ h => h) (Or.inl ⟨by rfl, ?_⟩) hS ?_
      rotate_left
      focus (intro w' hSw; obtain ⟨hN, q1, ql⟩ := hSw; have q2 := hN.cell (j := 0) rfl; have q3 := hN.cell (j := 1) rfl; have nl := hN.lt; clear hN; go_simp; try (with_reducible rfl))
      try simp only [Act.put, List.setIfInBounds_toArray, List.set_cons_zero, List.set_cons_succ]
      refine till_take 1 (v := ?_) rfl (by kernel_rfl) (fun _ _ _ h => h) (Or.inl ⟨by rfl, ?_⟩) hS ?_
      rotate_left
      focus (intro w' hSw; obtain ⟨hN, q1, ql⟩ := hSw; have q2 := hN.cell (j := 0) rfl; have q3 := hN.cell (j := 1) rfl; have nl := hN.lt; clear hN; go_simp; try (with_reducible rfl))
      try simp only [Act.put, List.setIfInBounds_toArray, List.set_cons_zero, List.set_cons_succ]
      refine till_take 2 (v := ?_) rfl (by kernel_rfl) (fun _ _ _ h => h) (Or.inl ⟨by rfl, ?_⟩) hS ?_
      rotate_left
      focus (intro w' hSw; obtain ⟨hN, q1, ql⟩ := hSw; have q2 := hN.cell (j := 0) rfl; have q3 := hN.cell (j := 1) rfl; have nl := hN.lt; clear hN; go_simp; try (with_reducible rfl))
      try simp only [Act.put, List.setIfInBounds_toArray, List.set_cons_zero, List.set_cons_succ]
      refine till_take 3 (v := ?_) rfl (by kernel_rfl) (fun _ _ _ h => h) (Or.inl ⟨by rfl, ?_⟩) hS ?_
      rotate_left
      focus (intro w' hSw; obtain ⟨hN, q1, ql⟩ := hSw; have q2 := hN.cell (j := 0) rfl; have q3 := hN.cell (j := 1) rfl; have nl := hN.lt; clear hN; go_simp; try (with_reducible rfl))
      try simp only [Act.put, List.setIfInBounds_toArray, List.set_cons_zero, List.set_cons_succ]
      refine till_take 4 (v := ?_) rfl (by kernel_rfl) (fun _ _ _ h => h) (Or.inl ⟨by rfl, ?_⟩) hS ?_
      rotate_left
      focus (intro w' hSw; obtain ⟨hN, q1, ql⟩ := hSw; have q2 := hN.cell (j := 0) rfl; have q3 := hN.cell (j := 1) rfl; have nl := hN.lt; clear hN; go_simp; try (with_reducible rfl))
      try simp only [Act.put, List.setIfInBounds_toArray, List.set_cons_zero, List.set_cons_succ]
      refine till_take 5 (v := ?_) rfl (by kernel_rfl) (fun _ _ _ h => h) (Or.inl ⟨by rfl, ?_⟩) hS ?_
      rotate_left
      focus (intro w' hSw; obtain ⟨hN, q1, ql⟩ := hSw; have q2 := hN.cell (j := 0) rfl; have q3 := hN.cell (j := 1) rfl; have nl := hN.lt; clear hN; go_simp; try (with_reducible rfl))
      try simp only [Act.put, List.setIfInBounds_toArray, List.set_cons_zero, List.set_cons_succ]
      refine till_take 6 (v := ?_) rfl (by kernel_rfl) (fun _ _ _ h => h) (Or.inl ⟨by rfl, ?_⟩) hS ?_
      rotate_left
      focus (intro w' hSw; obtain ⟨hN, q1, ql⟩ := hSw; have q2 := hN.cell (j := 0) rfl; have q3 := hN.cell (j := 1) rfl; have nl := hN.lt; clear hN; go_simp; try (with_reducible rfl))
      try simp only [Act.put, List.setIfInBounds_toArray, List.set_cons_zero, List.set_cons_succ]
      refine till_take 7 (v := ?_) rfl (by kernel_rfl) (fun _ _ _ h => h) (Or.inl ⟨by rfl, ?_⟩) hS ?_
      rotate_left
      focus (intro w' hSw; obtain ⟨hN, q1, ql⟩ := hSw; have q2 := hN.cell (j := 0) rfl; have q3 := hN.cell (j := 1) rfl; have nl := hN.lt; clear hN; go_simp; try (with_reducible rfl))
      try simp only [Act.put, List.setIfInBounds_toArray, List.set_cons_zero, List.set_cons_succ]
      refine till_take 8 (v := ?_) rfl (by kernel_rfl) (fun _ _ _ h => h) (Or.inl ⟨by rfl, ?_⟩) hS ?_
      rotate_left
      focus (intro w' hSw; obtain ⟨hN, q1, ql⟩ := hSw; have q2 := hN.cell (j := 0) rfl; have q3 := hN.cell (j := 1) rfl; have nl := hN.lt; clear hN; go_simp; try (with_reducible rfl))
      try simp only [Act.put, List.setIfInBounds_toArray, List.set_cons_zero, List.set_cons_succ]
      refine till_take 9 (v := ?_) rfl (by kernel_rfl) (fun _ _ _ h => h) (Or.inl ⟨by rfl, ?_⟩) hS ?_
      rotate_left
      focus (intro w' hSw; obtain ⟨hN, q1, ql⟩ := hSw; have q2 := hN.cell (j := 0) rfl; have q3 := hN.cell (j := 1) rfl; have nl := hN.lt; clear hN; go_simp; try (with_reducible rfl))
      try simp only [Act.put, List.setIfInBounds_toArray, List.set_cons_zero, List.set_cons_succ]
      refine till_ready [10] (by kernel_rfl) (TillReady.cons 10 rfl (fun K hK => ?_) TillReady.nil)
      go_simp
      refine H14.out.mono ?_
      rintro e w5 ⟨rfl, M5, v5, hq5, hs5⟩
      have hs35 : QStep (m'.x g) W3 (m'.M g) (m'.v g) w5 M5 v5 := QStep.belowL ((Below.refl _ _).drew) hs5
      have h5 := H3.out.at4.qstep hg hq5 hs35
      have hN5 : VarAt w5 n1 31 [.int .i64 id.s, .int .i64 id.q] := by
        unfold VarAt
        rw [hs35.block n1 HN3.out.lt fun ho => by have := ((H1.out.at4.q g hg).zone (.inl ho)).2; have := HNL.out; omega]
        exact HN3.out
      clear hS
      have hS : TakS c g n1 (.pointer (some ⟨m'.x g, 0, none⟩)) [.int .i64 id.s, .int .i64 id.q] w5 := ⟨hN5, by rw [← H1.out.at4.ptr g hg]; exact h5.box.cell (encC_at m' hg).1, h5.box.lt⟩
      refine (Hid.out hK) _ _ (fun _ => hS) ?_
      try simp only [Act.put, List.setIfInBounds_toArray, List.set_cons_zero, List.set_cons_succ]
      refine till_take 11 (v := ?_) rfl (by kernel_rfl) (fun _ _ _ h => h) (Or.inl ⟨by rfl, ?_⟩) hS ?_
      rotate_left
      focus (intro w' hSw; obtain ⟨hN, q1, ql⟩ := hSw; have q2 := hN.cell (j := 0) rfl; have q3 := hN.cell (j := 1) rfl; have nl := hN.lt; clear hN; go_simp; try (with_reducible rfl))
      try simp only [Act.put, List.setIfInBounds_toArray, List.set_cons_zero, List.set_cons_succ]
      refine till_ready [12] (by kernel_rfl) (TillReady.cons 12 rfl (fun K hK => ?_) TillReady.nil)
      go_simp
      refine (Hid.out hK) _ _ (fun h => absurd rfl h) ?_
      refine till_done (by kernel_rfl) ?_
      refine NoPanic.normal ?_
      have hS5 : TakS c (5 + g) n1 (m'.t g) [.int .i64 id.s, .int .i64 id.q] w5.drew := ⟨hN5, h5.box.cell (encC_at _ hg).2.1, h5.box.lt⟩
      have H5 := Lib.hid h5
      have HB5 := Lib.hid ((H3.out.at4.q g hg).belowB hs35)
      have HN5 := Lib.hid hN5
      clear hS hq5 hs5 hs35 hN5 h5 hS0
      go_upto_region 5 with fail
      have hcnt : (m'.T g).length ≤ 1000 := by have := H1.out.few g hg; omega
      have hrow5 : w5.ownsRow B 31 2 (m'.t g) (m'.T g).length ((m'.T g).flatMap idE) := H5.out.t g hg
      have HROW := Lib.hid hrow5
      clear hrow5
      refine wp_region_noPanic ?_
      refine till_start (TakS c (5 + g) n1 (m'.t g) [.int .i64 id.s, .int .i64 id.q]) 14 (by kernel_rfl) ?_
      have hS := hS5
      show AnyTill _ _ _ _ _ _ 15 (Array.replicate 15 false) _ _
      refine till_take 0 (v := ?_) rfl (by kernel_rfl) (fun _ _ _ h => h) (Or.inl ⟨by rfl, ?_⟩) hS ?_
      rotate_left
      focus (intro w' hSw; obtain ⟨hN, q1, ql⟩ := hSw; have q2 := hN.cell (j := 0) rfl; have q3 := hN.cell (j := 1) rfl; have nl := hN.lt; clear hN; go_simp; try (with_reducible rfl))
      try simp only [Act.put, List.setIfInBounds_toArray, List.set_cons_zero, List.set_cons_succ]
      refine till_take 1 (v := ?_) rfl (by kernel_rfl) (fun _ _ _ h => h) (Or.inl ⟨by rfl, ?_⟩) hS ?_
      rotate_left
      focus (intro w' hSw; obtain ⟨hN, q1, ql⟩ := hSw; have q2 := hN.cell (j := 0) rfl; have q3 := hN.cell (j := 1) rfl; have nl := hN.lt; clear hN; go_simp; try (with_reducible rfl))
      try simp only [Act.put, List.setIfInBounds_toArray, List.set_cons_zero, List.set_cons_succ]
      refine till_take 2 (v := ?_) rfl (by kernel_rfl) (fun _ _ _ h => h) (Or.inl ⟨by rfl, ?_⟩) hS ?_
      rotate_left
      focus (intro w' hSw; obtain ⟨hN, q1, ql⟩ := hSw; have q2 := hN.cell (j := 0) rfl; have q3 := hN.cell (j := 1) rfl; have nl := hN.lt; clear hN; go_simp; try (with_reducible rfl))
      try simp only [Act.put, List.setIfInBounds_toArray, List.set_cons_zero, List.set_cons_succ]
      refine till_take 3 (v := ?_) rfl (by kernel_rfl) (fun _ _ _ h => h) (Or.inl ⟨by rfl, ?_⟩) hS ?_
      rotate_left
      focus (intro w' hSw; obtain ⟨hN, q1, ql⟩ := hSw; have q2 := hN.cell (j := 0) rfl; have q3 := hN.cell (j := 1) rfl; have nl := hN.lt; clear hN; go_simp; try (with_reducible rfl))
      try simp only [Act.put, List.setIfInBounds_toArray, List.set_cons_zero, List.set_cons_succ]
      refine till_take 4 (v := ?_) rfl (by kernel_rfl) (fun _ _ _ h => h) (Or.inl ⟨by rfl, ?_⟩) hS ?_
      rotate_left
      focus (intro w' hSw; obtain ⟨hN, q1, ql⟩ := hSw; have q2 := hN.cell (j := 0) rfl; have q3 := hN.cell (j := 1) rfl; have nl := hN.lt; clear hN; go_simp; try (with_reducible rfl))
      try simp only [Act.put, List.setIfInBounds_toArray, List.set_cons_zero, List.set_cons_succ]
      refine till_take 5 (v := ?_) rfl (by kernel_rfl) (fun _ _ _ h => h) (Or.inl ⟨by rfl, ?_⟩) hS ?_
      rotate_left
      focus (intro w' hSw; obtain ⟨hN, q1, ql⟩ := hSw; have q2 := hN.cell (j := 0) rfl; have q3 := hN.cell (j := 1) rfl; have nl := hN.lt; clear hN; go_simp; try (with_reducible rfl))
      try simp only [Act.put, List.setIfInBounds_toArray, List.set_cons_zero, List.set_cons_succ]
      refine till_take 6 (v := ?_) rfl (by kernel_rfl) (fun _ _ _ h => h) (Or.inl ⟨by rfl, ?_⟩) hS ?_
      rotate_left
      focus (intro w' hSw; obtain ⟨hN, q1, ql⟩ := hSw; have q2 := hN.cell (j := 0) rfl; have q3 := hN.cell (j := 1) rfl; have nl := hN.lt; clear hN; go_simp; try (with_reducible rfl))
      try simp only [Act.put, List.setIfInBounds_toArray, List.set_cons_zero, List.set_cons_succ]
      refine till_take 7 (v := ?_) rfl (by kernel_rfl) (fun _ _ _ h => h) (Or.inl ⟨by rfl, ?_⟩) hS ?_
      rotate_left
      focus (intro w' hSw; obtain ⟨hN, q1, ql⟩ := hSw; have q2 := hN.cell (j := 0) rfl; have q3 := hN.cell (j := 1) rfl; have nl := hN.lt; clear hN; go_simp; try (with_reducible rfl))
      try simp only [Act.put, List.setIfInBounds_toArray, List.set_cons_zero, List.set_cons_succ]
      refine till_take 8 (v := ?_) rfl (by kernel_rfl) (fun _ _ _ h => h) (Or.inl ⟨by rfl, ?_⟩) hS ?_
      rotate_left
      focus (intro w' hSw; obtain ⟨hN, q1, ql⟩ := hSw; have q2 := hN.cell (j := 0) rfl; have q3 := hN.cell (j := 1) rfl; have nl := hN.lt; clear hN; go_simp; try (with_reducible rfl))
      try simp only [Act.put, List.setIfInBounds_toArray, List.set_cons_zero, List.set_cons_succ]
      refine till_take 11 (v := ?_) rfl (by kernel_rfl) (fun _ _ _ h => h) (Or.inl ⟨by rfl, ?_⟩) hS ?_
      rotate_left
      focus (intro w' hSw; obtain ⟨hN, q1, ql⟩ := hSw; have q2 := hN.cell (j := 0) rfl; have q3 := hN.cell (j := 1) rfl; have nl := hN.lt; clear hN; go_simp; try (with_reducible rfl))
      try simp only [Act.put, List.setIfInBounds_toArray, List.set_cons_zero, List.set_cons_succ]
      refine till_take 12 (v := ?_) rfl (by kernel_rfl) (fun _ _ _ h => h) (Or.inl ⟨by rfl, ?_⟩) hS ?_
      rotate_left
      focus (intro w' hSw; obtain ⟨hN, q1, ql⟩ := hSw; have q2 := hN.cell (j := 0) rfl; have q3 := hN.cell (j := 1) rfl; have nl := hN.lt; clear hN; go_simp; try (with_reducible rfl))
      try simp only [Act.put, List.setIfInBounds_toArray, List.set_cons_zero, List.set_cons_succ]
      refine till_ready [9] (by kernel_rfl) (TillReady.cons 9 rfl (fun K hK => ?_) TillReady.nil)
      go_simp
      have hb8 : Below w5.heap.size w5 (w5.drew.alloc (.cells #[.int .i64 id.s, .int .i64 id.q] 31)) := (Below.refl _ _).drew.alloc (Nat.le_refl _) _
      have hN := VarAt.new w5.drew 31 [.int .i64 id.s, .int .i64 id.q]
      have hS8 : TakS c (5 + g) n1 (m'.t g) [.int .i64 id.s, .int .i64 id.q] (w5.drew.alloc (.cells #[.int .i64 id.s, .int .i64 id.q] 31)) := ⟨hS.1.alloc _, by rw [hb8.cell (p := ⟨c, 5 + g, none⟩) hS.2.2]; exact hS.2.1, Nat.lt_of_lt_of_le hS.2.2 hb8.size⟩
      clear hS
      have hS := hS8
      refine (Hid.out hK) _ _ (fun _ => hS) ?_
      try simp only [Act.put, List.setIfInBounds_toArray, List.set_cons_zero, List.set_cons_succ]
      refine till_ready [10] (by kernel_rfl) (TillReady.cons 10 rfl (fun K hK => ?_) TillReady.nil)
      have hrow := H5.out.t g hg
      obtain ⟨ra, rc, hrv⟩ := owns_slice' hrow
      refine step_append_fresh (w5.drew.alloc (.cells #[.int .i64 id.s, .int .i64 id.q] 31)) rfl (.tmp 48) (.tmp 50) 22 rfl B 31 (.agg #[.int .i64 0, .int .i64 0]) 2 16 und22 info31 rfl (by decide) (m'.t g) ((m'.T g).length) ((m'.T g).flatMap idE) (by rfl) ?hrow ⟨w5.heap.size, 0, none⟩ 1 1 ([.int .i64 id.s, .int .i64 id.q]) (by go_simp) rfl ?hnew ?hone (by unfold maxLen; omega) (by omega) ?hB ?_
      case hrow => exact own_belowW HROW.out hb8
      case hnew => intro j u hu; rw [Go.WideShapes.add_plain, Nat.zero_add]; exact hN.cell hu
      case hone => intro u hu; simp only [List.mem_cons, List.not_mem_nil, or_false] at hu; rcases hu with rfl | rfl <;> rfl
      case hB => have := H5.out.low1; have := hb8.size; omega
      intro v9 w9 hT9 hg9 hvv9
      obtain ⟨a9, c9, hv9⟩ := owns_slice' hT9
      subst hv9
      have hg59 : w5.grownBy w9 (m'.t g).ownBlock := ⟨hg9.os.trans hb8.os, hg9.tape.trans hb8.tape, hg9.output.trans hb8.output, Nat.le_trans hb8.size hg9.size, fun k hk hne => by rw [hg9.block k (Nat.lt_of_lt_of_le hk hb8.size) hne, hb8.block k hk]⟩
      have hvv : (Value.slice a9 ((m'.T g).length + 1) c9).ownBlock = (m'.t g).ownBlock ∨ ∃ k, (Value.slice a9 ((m'.T g).length + 1) c9).ownBlock = some k ∧ w5.heap.size ≤ k := hvv9.imp (fun h => h) fun ⟨k, h1, h2⟩ => ⟨k, h1, Nat.le_trans hb8.size h2⟩
      have hn9 := HN5.out.grown hg59 (fun e => by have h1 := ((H1.out.at4.t g hg).lt n1 e.symm).2; have := HNL.out; omega)
      have hc9 := H5.out.box.grown hg59 (fun e => by have h1 := H5.out.sep 4 (6 + g) c (.inr (.inl ⟨rfl, rfl⟩)) (.inr (.inr (.inr (.inl ⟨g, hg, rfl, e.symm⟩)))); omega)
      clear hS
      have hS : TakS c (5 + g) n1 (m'.t g) [.int .i64 id.s, .int .i64 id.q] w9 := ⟨hn9, hc9.cell (encC_at _ hg).2.1, hc9.lt⟩
      refine (Hid.out hK) _ _ (fun _ => hS) ?_
      try simp only [Act.put, List.setIfInBounds_toArray, List.set_cons_zero, List.set_cons_succ]
      refine till_take 13 (v := ?_) rfl (by kernel_rfl) (fun _ _ _ h => h) (Or.inl ⟨by rfl, ?_⟩) hS ?_
      rotate_left
      focus (intro w' hSw; obtain ⟨hN, q1, ql⟩ := hSw; have q2 := hN.cell (j := 0) rfl; have q3 := hN.cell (j := 1) rfl; have nl := hN.lt; clear hN; go_simp; try (with_reducible rfl))
      try simp only [Act.put, List.setIfInBounds_toArray, List.set_cons_zero, List.set_cons_succ]
      refine till_ready [14] (by kernel_rfl) (TillReady.cons 14 rfl (fun K hK => ?_) TillReady.nil)
      have pz := hc9.free (5 + g)
      have pc : w9.cell? ⟨c, 5 + g, none⟩ = some (m'.t g) := hS.2.1
      have pl := hc9.lt
      go_simp
      refine (Hid.out hK) _ _ (fun h => absurd rfl h) ?_
      refine till_done (by kernel_rfl) ?_
      refine NoPanic.normal ?_
      generalize hW6 : World.setCell w9 _ _ = w6
      have h6 := H5.out.pushT hg (id, sv) hT9 hg59 hvv
      have hN6 := hn9.other (a := ⟨c, 5 + g, none⟩) (by have := H1.out.at4.box.lt; have := HNL.out; show n1 ≠ c; omega) (.slice a9 ((m'.T g).length + 1) c9)
      rw [hW6] at h6 hN6
      have hS6 : TakS c (9 + g) n1 (m'.f g) [.int .i64 id.s, .int .i64 id.q] w6.drew := ⟨hN6, h6.box.cell (encC_at _ hg).2.2, h6.box.lt⟩
      have H6 := Lib.hid h6
      have HN6 := Lib.hid hN6
      have HB6 := Lib.hid (show Below B w5 w6 by rw [← hW6]; exact grown_belowB hg59 (fun k hk => ((H5.out.t g hg).lt k hk).1) H5.out.low H5.out.low1)
      clear hW6 hS pz pc pl hc9 hn9 hvv hg59 hT9 hg9 hvv9 hS8 hN hb8 hrow h6 hN6 hS5
      go_upto_region 6 with fail
      have hrow6 : w6.ownsRow B 26 1 (m'.f g) (m'.U g).length ((m'.U g).map stE) := H6.out.f g hg
      have hcntU : (m'.U g).length ≤ 1000 := by rw [H1.out.tu]; exact hcnt
      have HROW6 := Lib.hid hrow6
      clear hrow6
      refine wp_region_noPanic ?_
      refine till_start (TakS c (9 + g) n1 (m'.f g) [.int .i64 id.s, .int .i64 id.q]) 14 (by kernel_rfl) ?_
      have hS := hS6
      show AnyTill _ _ _ _ _ _ 15 (Array.replicate 15 false) _ _
      refine till_take 0 (v := ?_) rfl (by kernel_rfl) (fun _ _ _ h => h) (Or.inl ⟨by rfl, ?_⟩) hS ?_
      rotate_left
      focus (intro w' hSw; obtain ⟨hN, q1, ql⟩ := hSw; have q2 := hN.cell (j := 0) rfl; have q3 := hN.cell (j := 1) rfl; have nl := hN.lt; clear hN; go_simp; try (with_reducible rfl))
      try simp only [Act.put, List.setIfInBounds_toArray, List.set_cons_zero, List.set_cons_succ]
      refine till_take 1 (v := ?_) rfl (by kernel_rfl) (fun _ _ _ h => h) (Or.inl ⟨by rfl, ?_⟩) hS ?_
      rotate_left
      focus (intro w' hSw; obtain ⟨hN, q1, ql⟩ := hSw; have q2 := hN.cell (j := 0) rfl; have q3 := hN.cell (j := 1) rfl; have nl := hN.lt; clear hN; go_simp; try (with_reducible rfl))
      try simp only [Act.put, List.setIfInBounds_toArray, List.set_cons_zero, List.set_cons_succ]
      refine till_take 2 (v := ?_) rfl (by kernel_rfl) (fun _ _ _ h => h) (Or.inl ⟨by rfl, ?_⟩) hS ?_
      rotate_left
      focus (intro w' hSw; obtain ⟨hN, q1, ql⟩ := hSw; have q2 := hN.cell (j := 0) rfl; have q3 := hN.cell (j := 1) rfl; have nl := hN.lt; clear hN; go_simp; try (with_reducible rfl))
      try simp only [Act.put, List.setIfInBounds_toArray, List.set_cons_zero, List.set_cons_succ]
      refine till_take 3 (v := ?_) rfl (by kernel_rfl) (fun _ _ _ h => h) (Or.inl ⟨by rfl, ?_⟩) hS ?_
      rotate_left
      focus (intro w' hSw; obtain ⟨hN, q1, ql⟩ := hSw; have q2 := hN.cell (j := 0) rfl; have q3 := hN.cell (j := 1) rfl; have nl := hN.lt; clear hN; go_simp; try (with_reducible rfl))
      try simp only [Act.put, List.setIfInBounds_toArray, List.set_cons_zero, List.set_cons_succ]
      refine till_take 4 (v := ?_) rfl (by kernel_rfl) (fun _ _ _ h => h) (Or.inl ⟨by rfl, ?_⟩) hS ?_
      rotate_left
      focus (intro w' hSw; obtain ⟨hN, q1, ql⟩ := hSw; have q2 := hN.cell (j := 0) rfl; have q3 := hN.cell (j := 1) rfl; have nl := hN.lt; clear hN; go_simp; try (with_reducible rfl))
      try simp only [Act.put, List.setIfInBounds_toArray, List.set_cons_zero, List.set_cons_succ]
      refine till_take 5 (v := ?_) rfl (by kernel_rfl) (fun _ _ _ h => h) (Or.inl ⟨by rfl, ?_⟩) hS ?_
      rotate_left
      focus (intro w' hSw; obtain ⟨hN, q1, ql⟩ := hSw; have q2 := hN.cell (j := 0) rfl; have q3 := hN.cell (j := 1) rfl; have nl := hN.lt; clear hN; go_simp; try (with_reducible rfl))
      try simp only [Act.put, List.setIfInBounds_toArray, List.set_cons_zero, List.set_cons_succ]
      refine till_take 6 (v := ?_) rfl (by kernel_rfl) (fun _ _ _ h => h) (Or.inl ⟨by rfl, ?_⟩) hS ?_
      rotate_left
      focus (intro w' hSw; obtain ⟨hN, q1, ql⟩ := hSw; have q2 := hN.cell (j := 0) rfl; have q3 := hN.cell (j := 1) rfl; have nl := hN.lt; clear hN; go_simp; try (with_reducible rfl))
      try simp only [Act.put, List.setIfInBounds_toArray, List.set_cons_zero, List.set_cons_succ]
      refine till_take 7 (v := ?_) rfl (by kernel_rfl) (fun _ _ _ h => h) (Or.inl ⟨by rfl, ?_⟩) hS ?_
      rotate_left
      focus (intro w' hSw; obtain ⟨hN, q1, ql⟩ := hSw; have q2 := hN.cell (j := 0) rfl; have q3 := hN.cell (j := 1) rfl; have nl := hN.lt; clear hN; go_simp; try (with_reducible rfl))
      try simp only [Act.put, List.setIfInBounds_toArray, List.set_cons_zero, List.set_cons_succ]
      refine till_take 8 (v := ?_) rfl (by kernel_rfl) (fun _ _ _ h => h) (Or.inl ⟨by rfl, ?_⟩) hS ?_
      rotate_left
      focus (intro w' hSw; obtain ⟨hN, q1, ql⟩ := hSw; have q2 := hN.cell (j := 0) rfl; have q3 := hN.cell (j := 1) rfl; have nl := hN.lt; clear hN; go_simp; try (with_reducible rfl))
      try simp only [Act.put, List.setIfInBounds_toArray, List.set_cons_zero, List.set_cons_succ]
      refine till_take 11 (v := ?_) rfl (by kernel_rfl) (fun _ _ _ h => h) (Or.inl ⟨by rfl, ?_⟩) hS ?_
      rotate_left
      focus (intro w' hSw; obtain ⟨hN, q1, ql⟩ := hSw; have q2 := hN.cell (j := 0) rfl; have q3 := hN.cell (j := 1) rfl; have nl := hN.lt; clear hN; go_simp; try (with_reducible rfl))
      try simp only [Act.put, List.setIfInBounds_toArray, List.set_cons_zero, List.set_cons_succ]
      refine till_take 12 (v := ?_) rfl (by kernel_rfl) (fun _ _ _ h => h) (Or.inl ⟨by rfl, ?_⟩) hS ?_
      rotate_left
      focus (intro w' hSw; obtain ⟨hN, q1, ql⟩ := hSw; have q2 := hN.cell (j := 0) rfl; have q3 := hN.cell (j := 1) rfl; have nl := hN.lt; clear hN; go_simp; try (with_reducible rfl))
      try simp only [Act.put, List.setIfInBounds_toArray, List.set_cons_zero, List.set_cons_succ]
      refine till_ready [9] (by kernel_rfl) (TillReady.cons 9 rfl (fun K hK => ?_) TillReady.nil)
      go_simp
      have hb8 : Below w6.heap.size w6 (w6.drew.alloc (.cells #[.int .u64 sv] 26)) := (Below.refl _ _).drew.alloc (Nat.le_refl _) _
      have hN := VarAt.new w6.drew 26 [.int .u64 sv]
      have hS8 : TakS c (9 + g) n1 (m'.f g) [.int .i64 id.s, .int .i64 id.q] (w6.drew.alloc (.cells #[.int .u64 sv] 26)) := ⟨hS.1.alloc _, by rw [hb8.cell (p := ⟨c, 9 + g, none⟩) hS.2.2]; exact hS.2.1, Nat.lt_of_lt_of_le hS.2.2 hb8.size⟩
      clear hS
      have hS := hS8
      refine (Hid.out hK) _ _ (fun _ => hS) ?_
      try simp only [Act.put, List.setIfInBounds_toArray, List.set_cons_zero, List.set_cons_succ]
      refine till_ready [10] (by kernel_rfl) (TillReady.cons 10 rfl (fun K hK => ?_) TillReady.nil)
      have hrow := H6.out.f g hg
      obtain ⟨ra, rc, hrv⟩ := owns_slice' hrow
      refine step_append_fresh (w6.drew.alloc (.cells #[.int .u64 sv] 26)) rfl (.tmp 62) (.tmp 64) 49 rfl B 26 (.int .u64 0) 1 8 und49 info26 rfl (by decide) (m'.f g) ((m'.U g).length) ((m'.U g).map stE) (by rfl) ?hrow ⟨w6.heap.size, 0, none⟩ 1 1 ([.int .u64 sv]) (by go_simp) rfl ?hnew ?hone (by unfold maxLen; omega) (by omega) ?hB ?_
      case hrow => exact own_belowW HROW6.out hb8
      case hnew => intro j u hu; rw [Go.WideShapes.add_plain, Nat.zero_add]; exact hN.cell hu
      case hone => intro u hu; simp only [List.mem_cons, List.not_mem_nil, or_false] at hu; subst hu; rfl
      case hB => have := H6.out.low1; have := hb8.size; omega
      intro v9 w9 hT9 hg9 hvv9
      obtain ⟨a9, c9, hv9⟩ := owns_slice' hT9
      subst hv9
      have hg59 : w6.grownBy w9 (m'.f g).ownBlock := ⟨hg9.os.trans hb8.os, hg9.tape.trans hb8.tape, hg9.output.trans hb8.output, Nat.le_trans hb8.size hg9.size, fun k hk hne => by rw [hg9.block k (Nat.lt_of_lt_of_le hk hb8.size) hne, hb8.block k hk]⟩
      have hvv : (Value.slice a9 ((m'.U g).length + 1) c9).ownBlock = (m'.f g).ownBlock ∨ ∃ k, (Value.slice a9 ((m'.U g).length + 1) c9).ownBlock = some k ∧ w6.heap.size ≤ k := hvv9.imp (fun h => h) fun ⟨k, h1, h2⟩ => ⟨k, h1, Nat.le_trans hb8.size h2⟩
      have hn9 := HN6.out.grown hg59 (fun e => by have h1 := ((H1.out.at4.f g hg).lt n1 e.symm).2; have := HNL.out; omega)
      have hc9 := H6.out.box.grown hg59 (fun e => by have h1 := H6.out.sep 4 (10 + g) c (.inr (.inl ⟨rfl, rfl⟩)) (.inr (.inr (.inr (.inr ⟨g, hg, rfl, e.symm⟩)))); omega)
      clear hS
      have hS : TakS c (9 + g) n1 (m'.f g) [.int .i64 id.s, .int .i64 id.q] w9 := ⟨hn9, hc9.cell (encC_at _ hg).2.2, hc9.lt⟩
      refine (Hid.out hK) _ _ (fun _ => hS) ?_
      try simp only [Act.put, List.setIfInBounds_toArray, List.set_cons_zero, List.set_cons_succ]
      refine till_take 13 (v := ?_) rfl (by kernel_rfl) (fun _ _ _ h => h) (Or.inl ⟨by rfl, ?_⟩) hS ?_
      rotate_left
      focus (intro w' hSw; obtain ⟨hN, q1, ql⟩ := hSw; have q2 := hN.cell (j := 0) rfl; have q3 := hN.cell (j := 1) rfl; have nl := hN.lt; clear hN; go_simp; try (with_reducible rfl))
      try simp only [Act.put, List.setIfInBounds_toArray, List.set_cons_zero, List.set_cons_succ]
      refine till_ready [14] (by kernel_rfl) (TillReady.cons 14 rfl (fun K hK => ?_) TillReady.nil)
      have pz := hc9.free (9 + g)
      have pc : w9.cell? ⟨c, 9 + g, none⟩ = some (m'.f g) := hS.2.1
      have pl := hc9.lt
      go_simp
      refine (Hid.out hK) _ _ (fun h => absurd rfl h) ?_
      refine till_done (by kernel_rfl) ?_
      refine NoPanic.normal ?_
      generalize hW7 : World.setCell w9 _ _ = w7
      have h7 := H6.out.pushF hg (id, sv) hT9 hg59 hvv
      rw [hW7] at h7
      have H7 := Lib.hid h7
      have HB7 := Lib.hid (show Below B w6 w7 by rw [← hW7]; exact grown_belowB hg59 (fun k hk => ((H6.out.f g hg).lt k hk).1) H6.out.low H6.out.low1)
      clear hW7 hS pz pc pl hc9 hn9 hvv hg59 hT9 hg9 hvv9 hS8 hN hb8 hrow h7 hS6
      go_wp2
      go_tidy
      obtain ⟨hgd, hsb, hln⟩ := H1.out.took (x := (id, sv)) hg HNX.out H7.out
      simp only at hln hsb
      refine ⟨⟨k + 1, _, rfl, hgd, HGO.out.trans (upd_goes rfl rfl rfl hsb), fun o ho => ?_, ?_, ?_⟩, by simp [intOf]; omega⟩
      · simp only [upd_same] at ho
        exact HSUB.out o (hsb o ho)
      · simp only [upd_same]
        have := HLEN.out
        omega
      · have hlow := H1.out.at4.low1
        have hlow3 := H3.out.at4.low1
        exact HB.out.trans (((HB3.out.mono hlow).trans HB5.out).trans (HB6.out.trans HB7.out))
end Go.Proofs.Ytamjdghjaimihaa
