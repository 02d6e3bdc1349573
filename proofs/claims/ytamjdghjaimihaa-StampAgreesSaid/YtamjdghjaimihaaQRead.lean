/- What the queue tells. Conditions: each law's own. -/
import Derived.Test.YtamjdghjaimihaaQAt
namespace Go.Proofs.Ytamjdghjaimihaa
open Go.ChangeShapes Go.WideShapes Go.ChangeAt Go.RowKit

def TellV (v : Value) (w : World) (e : Ending) (w' : World) : Prop := e = .returned v ∧ Below w.heap.size w w'
section
variable {w : World} {x : Nat} {g : Int} {S : QS} {M : List MemO} {v : Value} {B : Nat}
theorem c15 (h : QAt w x g S M v B) : Calls Try.prog 15 #[.pointer (some ⟨x, 0, none⟩)] w (TellV (.int .u64 S.clock) w) := by
  refine gen (S := TellV (.int .u64 S.clock) w) fun R hR => ?_
  have f1 := h.box.cell (j := 1) rfl
  have xl := h.box.lt
  have HR := Lib.hid hR
  clear h hR
  go_enter Try.func15, Try.ntmps15
  go_wp2
  go_tidy
  exact HR.out _ _ ⟨rfl, Below.refl _ _⟩
theorem stamp_pos {clock : Int} {o : OneD} (ok : OneOk g clock o) : 1 ≤ stampS g o := by
  have h1 := ok.ownPos
  unfold stampS
  split
  · have hg := ok.range g ok.own
    have : g = 0 ∨ g = 1 ∨ g = 2 ∨ g = 3 := by omega
    unfold topS
    rcases this with rfl | rfl | rfl | rfl <;> omega
  · exact h1
theorem QAt.nil (h : QAt w x g S [] v B) : ord g S.L = [] := h.lst.symm
theorem QAt.cons {y : MemO} {M' : List MemO} (h : QAt w x g S (y :: M') v B) : ord g S.L = y.o :: M'.map (·.o) := h.lst.symm
set_option maxHeartbeats 2000000 in
set_option maxRecDepth 100000 in
theorem c16 (h : QAt w x g S M v B) : Calls Try.prog 16 #[.pointer (some ⟨x, 0, none⟩)] w (TellV (.int .u64 (safeS g S)) w) := by
  refine gen (S := TellV (.int .u64 (safeS g S)) w) fun R hR => ?_
  have h15 := fun W (hb : Below w.heap.size w W) => c15 (h.below hb)
  have H15 := Lib.hid h15
  have f2 := h.box.cell (j := 2) rfl
  have xl := h.box.lt
  obtain ⟨ao, cap, rfl, hl1, hl2, hl3, -⟩ := id h.row
  unfold maxLen at hl3
  cases M with
  | nil =>
    have hs : safeS g S = S.clock := by unfold safeS; rw [h.nil]
    rw [hs] at hR
    have HR := Lib.hid hR
    clear h hR h15 hs
    go_enter Try.func16, Try.ntmps16
    go_wp2_with (first | (go_at_call 15; refine (H15.out _ (Below.refl _ _)).mono ?_; rintro e w' ⟨rfl, hb⟩; have HB := Lib.hid hb; clear hb) | fail)
    go_tidy
    exact HR.out _ _ ⟨rfl, HB.out⟩
  | cons y M' =>
    have hy := h.ones y (List.mem_cons_self ..)
    have oy := h.okOf (y := y) (List.mem_cons_self ..)
    have hs : safeS g S = stampS g y.o - 1 := by unfold safeS; rw [h.cons]
    rw [hs] at hR
    have h37 := c37o hy oy
    have hp := stamp_pos oy
    have ht := oy.top
    have hc1 := h.ok.clock1
    unfold mostS at hc1
    obtain ⟨gb, off, rfl, -, hgl, hc⟩ := h.row.cell (i := 0) (u := ptr y) rfl
    have hw1 : IntKind.u64.wrap (stampS g y.o - 1) = stampS g y.o - 1 := IntWalk.u64_in _ (by omega)
    unfold ptr at hc h37
    rw [Nat.add_zero] at hc
    have H37 := Lib.hid h37
    have HR := Lib.hid hR
    have hlen : ¬ ((y :: M').length : Int) = 0 := by simp <;> omega
    have hlen2 : (((y :: M').length : Int) == 0) = false := by simpa using hlen
    have hlen3 : (0 : Int) < ((y :: M').length : Int) := by simp <;> omega
    have hlen4 : 0 < (y :: M').length := by simp
    generalize (y :: M').length = n at *
    clear h hR h15 hs hy oy h37
    generalize stampS g y.o = sv at *
    go_enter Try.func16, Try.ntmps16
    go_wp2_with (first | (go_at_call 37; refine H37.out.mono ?_; rintro e w' ⟨rfl, q, os, he⟩; have HB := Lib.hid (show Below w.heap.size w w' by rw [he]; exact grow_below _ _ _); clear he) | fail)
    go_tidy
    exact HR.out _ _ ⟨rfl, HB.out⟩
def nextV : Option (IdD × Int) → Value
  | none => .tuple #[.agg #[.int .i64 0, .int .i64 0], .int .u64 0, .bool false]
  | some (id, s) => .tuple #[.agg #[.int .i64 id.s, .int .i64 id.q], .int .u64 s, .bool true]
def NxtS (x gb off p : Nat) (src : Value) (id : IdD) (W : World) : Prop := W.cell? ⟨x, 2, none⟩ = some src ∧ W.cell? ⟨gb, off, none⟩ = some (.pointer (some ⟨p, 0, none⟩)) ∧ W.cell? ⟨p, 0, none⟩ = some (.int .i64 id.s) ∧ W.cell? ⟨p, 1, none⟩ = some (.int .i64 id.q)
set_option maxHeartbeats 4000000 in
set_option maxRecDepth 1000000 in
theorem c13 (h : QAt w x g S M v B) : Calls Try.prog 13 #[.pointer (some ⟨x, 0, none⟩)] w (TellV (nextV (nextS g S)) w) := by
  refine gen (S := TellV (nextV (nextS g S)) w) fun R hR => ?_
  obtain ⟨W1, hW⟩ : ∃ W1 : World, W1 = w.alloc (.cells #[.int .i64 0, .int .i64 0] 31) := ⟨_, rfl⟩
  have hB : Below w.heap.size w W1 := by rw [hW]; exact (Below.refl _ _).alloc (Nat.le_refl _) _
  have hZ : VarAt W1 w.heap.size 31 [.int .i64 0, .int .i64 0] := by rw [hW]; exact VarAt.new w 31 [.int .i64 0, .int .i64 0]
  have h1 := h.below hB
  have f2 := h1.box.cell (j := 2) rfl
  have xl := h1.box.lt
  have z0 := hZ.cell (j := 0) rfl
  have z1 := hZ.cell (j := 1) rfl
  have k0 := hZ.free 0
  have k1 := hZ.free 1
  have zl := hZ.lt
  obtain ⟨ao, cap, rfl, hl1, hl2, hl3, -⟩ := id h.row
  unfold maxLen at hl3
  have HZ := Lib.hid hZ
  have HB := Lib.hid hB
  have HW := Lib.hid hW
  cases M with
  | nil =>
    have hs : nextS g S = none := by unfold nextS; rw [h.nil]
    rw [hs] at hR
    have HR := Lib.hid hR
    clear h h1 hR hs hZ hB hW
    go_enter Try.func13, Try.ntmps13
    go_upto_region 1 with fail
    rw [← HW.out]
    go_wp2
    refine bodyPost_ret (v := nextV none) (by simp [results, Try.results13, go_sem, nextV, z0, z1]) rfl (HR.out _ _ ⟨rfl, ?_⟩)
    exact (HB.out.setCell (by simp) _).setCell (by simp) _
  | cons y M' =>
    have hy := h1.ones y (List.mem_cons_self ..)
    have oy := h1.okOf (y := y) (List.mem_cons_self ..)
    have hs : nextS g S = if final y.o then some (y.o.id, stampS g y.o) else none := by unfold nextS; rw [h.cons]
    rw [hs] at hR
    have h37 := fun W (hb : Below W1.heap.size W1 W) => c37o (hy.below hb) oy
    obtain ⟨gb, off, rfl, -, hgl, hc⟩ := h1.row.cell (i := 0) (u := ptr y) rfl
    have b0 := hy.box.cell (j := 0) rfl
    have b1 := hy.box.cell (j := 1) rfl
    have b5 := hy.box.cell (j := 5) rfl
    have bl := hy.box.lt
    have hgne : gb ≠ w.heap.size := by have := (h.lowR gb rfl).2; omega
    have hpne : y.p ≠ w.heap.size := by have := (h.ones y (List.mem_cons_self ..)).box.lt; omega
    have hxne : x ≠ w.heap.size := by have := h.box.lt; omega
    unfold ptr at hc h37
    rw [Nat.add_zero] at hc
    have H37 := Lib.hid h37
    have hlen2 : (((y :: M').length : Int) == 0) = false := by simp <;> omega
    have hlen3 : (0 : Int) < ((y :: M').length : Int) := by simp <;> omega
    have hlen4 : 0 < (y :: M').length := by simp
    have H1 := Lib.hid h1
    generalize (y :: M').length = n at *
    clear h hs hy oy h37 hZ hB hW
    cases hfin : final y.o with
    | false =>
      rw [hfin] at hR b5
      have HR := Lib.hid hR
      clear hR h1
      go_enter Try.func13, Try.ntmps13
      go_upto_region 1 with fail
      rw [← HW.out]
      go_wp2
      refine bodyPost_ret (v := nextV none) (by simp [results, Try.results13, go_sem, nextV, z0, z1]) rfl (HR.out _ _ ⟨rfl, ?_⟩)
      exact (HB.out.setCell (by simp) _).setCell (by simp) _
    | true =>
      rw [hfin] at hR b5
      have HR := Lib.hid hR
      have sk : ∀ W, W.heap.size ≥ W1.heap.size → (∀ k, k < W1.heap.size → k ≠ w.heap.size → W.heap[k]? = W1.heap[k]?) → NxtS x gb off y.p (.slice (some ⟨gb, off, none⟩) n cap) y.o.id W := fun W _ hk => by
        have e : ∀ {k j : Nat} {u : Value}, k < W1.heap.size → k ≠ w.heap.size → W1.cell? ⟨k, j, none⟩ = some u → W.cell? ⟨k, j, none⟩ = some u := fun {k j u} h2 h3 h4 => by rw [World.cell?_of_block (a := ⟨k, j, none⟩) (hk k h2 h3)]; exact h4
        exact ⟨e xl hxne f2, e hgl hgne hc, e bl hpne b0, e bl hpne b1⟩
      have SK := Lib.hid sk
      clear hR h1 sk
      go_enter Try.func13, Try.ntmps13
      go_upto_region 1 with fail
      rw [← HW.out]
      go_upto_region 3 with fail
      refine wp_region_noPanic ?_
      refine till_start (NxtS x gb off y.p (.slice (some ⟨gb, off, none⟩) n cap) y.o.id) 18 (by kernel_rfl) ?_
      have hS := SK.out W1.drew (Nat.le_refl _) (fun _ _ _ => rfl)
      show AnyTill _ _ _ _ _ _ 19 (Array.replicate 19 false) _ _
      refine till_take 0 (v := ?_) rfl (by kernel_rfl) (fun _ _ _ h => h) (Or.inl ⟨by rfl, ?_⟩) hS ?_
      rotate_left
      focus (intro w' hSw; obtain ⟨hs0, hs1, hs2, hs3⟩ := hSw; go_simp; try (with_reducible rfl))
      try simp only [Act.put, List.setIfInBounds_toArray, List.set_cons_zero, List.set_cons_succ]
      refine till_take 1 (v := ?_) rfl (by kernel_rfl) (fun _ _ _ h => h) (Or.inl ⟨by rfl, ?_⟩) hS ?_
      rotate_left
      focus (intro w' hSw; obtain ⟨hs0, hs1, hs2, hs3⟩ := hSw; go_simp; try (with_reducible rfl))
      try simp only [Act.put, List.setIfInBounds_toArray, List.set_cons_zero, List.set_cons_succ]
      refine till_take 2 (v := ?_) rfl (by kernel_rfl) (fun _ _ _ h => h) (Or.inl ⟨by rfl, ?_⟩) hS ?_
      rotate_left
      focus (intro w' hSw; obtain ⟨hs0, hs1, hs2, hs3⟩ := hSw; go_simp; try (with_reducible rfl))
      try simp only [Act.put, List.setIfInBounds_toArray, List.set_cons_zero, List.set_cons_succ]
      refine till_take 3 (v := ?_) rfl (by kernel_rfl) (fun _ _ _ h => h) (Or.inl ⟨by rfl, ?_⟩) hS ?_
      rotate_left
      focus (intro w' hSw; obtain ⟨hs0, hs1, hs2, hs3⟩ := hSw; go_simp; try (with_reducible rfl))
      try simp only [Act.put, List.setIfInBounds_toArray, List.set_cons_zero, List.set_cons_succ]
      refine till_take 4 (v := ?_) rfl (by kernel_rfl) (fun _ _ _ h => h) (Or.inl ⟨by rfl, ?_⟩) hS ?_
      rotate_left
      focus (intro w' hSw; obtain ⟨hs0, hs1, hs2, hs3⟩ := hSw; go_simp; try (with_reducible rfl))
      try simp only [Act.put, List.setIfInBounds_toArray, List.set_cons_zero, List.set_cons_succ]
      refine till_take 5 (v := ?_) rfl (by kernel_rfl) (fun _ _ _ h => h) (Or.inl ⟨by rfl, ?_⟩) hS ?_
      rotate_left
      focus (intro w' hSw; obtain ⟨hs0, hs1, hs2, hs3⟩ := hSw; go_simp; try (with_reducible rfl))
      try simp only [Act.put, List.setIfInBounds_toArray, List.set_cons_zero, List.set_cons_succ]
      refine till_take 6 (v := ?_) rfl (by kernel_rfl) (fun _ _ _ h => h) (Or.inl ⟨by rfl, ?_⟩) hS ?_
      rotate_left
      focus (intro w' hSw; obtain ⟨hs0, hs1, hs2, hs3⟩ := hSw; go_simp; try (with_reducible rfl))
      try simp only [Act.put, List.setIfInBounds_toArray, List.set_cons_zero, List.set_cons_succ]
      refine till_take 7 (v := ?_) rfl (by kernel_rfl) (fun _ _ _ h => h) (Or.inl ⟨by rfl, ?_⟩) hS ?_
      rotate_left
      focus (intro w' hSw; obtain ⟨hs0, hs1, hs2, hs3⟩ := hSw; go_simp; try (with_reducible rfl))
      try simp only [Act.put, List.setIfInBounds_toArray, List.set_cons_zero, List.set_cons_succ]
      refine till_take 8 (v := ?_) rfl (by kernel_rfl) (fun _ _ _ h => h) (Or.inl ⟨by rfl, ?_⟩) hS ?_
      rotate_left
      focus (intro w' hSw; obtain ⟨hs0, hs1, hs2, hs3⟩ := hSw; go_simp; try (with_reducible rfl))
      try simp only [Act.put, List.setIfInBounds_toArray, List.set_cons_zero, List.set_cons_succ]
      refine till_take 9 (v := ?_) rfl (by kernel_rfl) (fun _ _ _ h => h) (Or.inl ⟨by rfl, ?_⟩) hS ?_
      rotate_left
      focus (intro w' hSw; obtain ⟨hs0, hs1, hs2, hs3⟩ := hSw; go_simp; try (with_reducible rfl))
      try simp only [Act.put, List.setIfInBounds_toArray, List.set_cons_zero, List.set_cons_succ]
      refine till_take 10 (v := ?_) rfl (by kernel_rfl) (fun _ _ _ h => h) (Or.inl ⟨by rfl, ?_⟩) hS ?_
      rotate_left
      focus (intro w' hSw; obtain ⟨hs0, hs1, hs2, hs3⟩ := hSw; go_simp; try (with_reducible rfl))
      try simp only [Act.put, List.setIfInBounds_toArray, List.set_cons_zero, List.set_cons_succ]
      refine till_take 11 (v := ?_) rfl (by kernel_rfl) (fun _ _ _ h => h) (Or.inl ⟨by rfl, ?_⟩) hS ?_
      rotate_left
      focus (intro w' hSw; obtain ⟨hs0, hs1, hs2, hs3⟩ := hSw; go_simp; try (with_reducible rfl))
      try simp only [Act.put, List.setIfInBounds_toArray, List.set_cons_zero, List.set_cons_succ]
      refine till_take 12 (v := ?_) rfl (by kernel_rfl) (fun _ _ _ h => h) (Or.inl ⟨by rfl, ?_⟩) hS ?_
      rotate_left
      focus (intro w' hSw; obtain ⟨hs0, hs1, hs2, hs3⟩ := hSw; go_simp; try (with_reducible rfl))
      try simp only [Act.put, List.setIfInBounds_toArray, List.set_cons_zero, List.set_cons_succ]
      refine till_take 13 (v := ?_) rfl (by kernel_rfl) (fun _ _ _ h => h) (Or.inl ⟨by rfl, ?_⟩) hS ?_
      rotate_left
      focus (intro w' hSw; obtain ⟨hs0, hs1, hs2, hs3⟩ := hSw; go_simp; try (with_reducible rfl))
      try simp only [Act.put, List.setIfInBounds_toArray, List.set_cons_zero, List.set_cons_succ]
      refine till_take 14 (v := ?_) rfl (by kernel_rfl) (fun _ _ _ h => h) (Or.inl ⟨by rfl, ?_⟩) hS ?_
      rotate_left
      focus (intro w' hSw; obtain ⟨hs0, hs1, hs2, hs3⟩ := hSw; go_simp; try (with_reducible rfl))
      try simp only [Act.put, List.setIfInBounds_toArray, List.set_cons_zero, List.set_cons_succ]
      refine till_ready [15] (by kernel_rfl) (TillReady.cons 15 rfl (fun K hK => ?_) TillReady.nil)
      go_simp
      refine (H37.out W1.drew (Below.refl _ _).drew).mono ?_
      rintro e w4 ⟨rfl, q4, os4, he4⟩
      have hb4 : Below W1.heap.size W1 w4 := by rw [he4]; exact (Below.refl W1.heap.size W1).drew.trans (grow_below W1.drew q4 os4)
      have hZ4 := HZ.out.keep hb4 zl
      have u0 := hZ4.cell (j := 0) rfl
      have u1 := hZ4.cell (j := 1) rfl
      have v0 := hZ4.free 0
      have v1 := hZ4.free 1
      have vl := hZ4.lt
      have HB4 := Lib.hid hb4
      have HZ4 := Lib.hid hZ4
      clear he4 hS
      have hS := SK.out w4 hb4.size (fun k hk _ => hb4.block k hk)
      clear hb4 hZ4
      refine (Hid.out hK) _ _ (fun _ => hS) ?_
      try simp only [Act.put, List.setIfInBounds_toArray, List.set_cons_zero, List.set_cons_succ]
      refine till_ready [16] (by kernel_rfl) (TillReady.cons 16 rfl (fun K hK => ?_) TillReady.nil)
      go_simp
      have hZ5 : VarAt ((w4.setCell ⟨w.heap.size, 0, none⟩ (.int .i64 y.o.id.s)).setCell ⟨w.heap.size, 1, none⟩ (.int .i64 y.o.id.q)) w.heap.size 31 [.int .i64 y.o.id.s, .int .i64 y.o.id.q] := (HZ4.out.set 0 _).set 1 _
      have hB5 : Below w.heap.size w ((w4.setCell ⟨w.heap.size, 0, none⟩ (.int .i64 y.o.id.s)).setCell ⟨w.heap.size, 1, none⟩ (.int .i64 y.o.id.q)) := ((HB.out.trans (HB4.out.mono HB.out.size)).setCell (Nat.le_refl _) _).setCell (Nat.le_refl _) _
      clear hS
      have hS := SK.out ((w4.setCell ⟨w.heap.size, 0, none⟩ (.int .i64 y.o.id.s)).setCell ⟨w.heap.size, 1, none⟩ (.int .i64 y.o.id.q)) (by simpa using HB4.out.size) (fun k hk hne => by rw [Below.heap_setCell _ _ _ k (by simpa using hne), Below.heap_setCell _ _ _ k (by simpa using hne)]; exact HB4.out.block k hk)
      refine (Hid.out hK) _ _ (fun _ => hS) ?_
      try simp only [Act.put, List.setIfInBounds_toArray, List.set_cons_zero, List.set_cons_succ]
      refine till_take 17 (v := ?_) rfl (by kernel_rfl) (fun _ _ _ h => h) (Or.inl ⟨by rfl, ?_⟩) hS ?_
      rotate_left
      focus (intro w' hSw; obtain - := hSw; go_simp; try (with_reducible rfl))
      try simp only [Act.put, List.setIfInBounds_toArray, List.set_cons_zero, List.set_cons_succ]
      refine till_ready [18] (by kernel_rfl) (TillReady.cons 18 rfl (fun K hK => ?_) TillReady.nil)
      go_simp
      refine (Hid.out hK) _ _ (fun h => absurd rfl h) ?_
      refine till_done (by kernel_rfl) ?_
      refine NoPanic.normal ?_
      clear hS u0 u1 v0 v1 z0 z1 k0 k1
      generalize (w4.setCell ⟨w.heap.size, 0, none⟩ (.int .i64 y.o.id.s)).setCell ⟨w.heap.size, 1, none⟩ (.int .i64 y.o.id.q) = W5 at *
      have q0 := hZ5.cell (j := 0) rfl
      have q1 := hZ5.cell (j := 1) rfl
      go_wp2
      refine bodyPost_ret (v := nextV (some (y.o.id, stampS g y.o))) (by simp [results, Try.results13, go_sem, nextV, q0, q1]) rfl (HR.out _ _ ⟨rfl, hB5⟩)
end
end Go.Proofs.Ytamjdghjaimihaa
