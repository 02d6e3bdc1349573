/- The reference: the next one. Conditions: each law's own. -/
import Derived.Test.YtamjdghjaimihaaRRead
namespace Go.Proofs.Ytamjdghjaimihaa
open Go.ChangeShapes Go.WideShapes Go.ChangeAt Go.RowKit

section
variable {w : World} {x : Nat} {g : Int} {S : QS} {L : List RefO} {lv : Value} {B : Nat}
set_option maxHeartbeats 4000000 in
set_option maxRecDepth 1000000 in
theorem c25 (h : RefAt w x g S L lv B) (hl : L.length ≤ 1000) : Calls Try.prog 25 #[.pointer (some ⟨x, 0, none⟩)] w (TellV (nextV (nextS g S)) w) := by
  refine gen (S := TellV (nextV (nextS g S)) w) fun R hR => ?_
  obtain ⟨W1, hW⟩ : ∃ W1 : World, W1 = w.alloc (.cells #[.int .i64 0, .int .i64 0] 31) := ⟨_, rfl⟩
  have hB : Below w.heap.size w W1 := by rw [hW]; exact (Below.refl _ _).alloc (Nat.le_refl _) _
  have hZ : VarAt W1 w.heap.size 31 [.int .i64 0, .int .i64 0] := by rw [hW]; exact VarAt.new w 31 [.int .i64 0, .int .i64 0]
  have H43 := Lib.hid (c43 (h.below hB) hl)
  have HZ := Lib.hid hZ
  have HB := Lib.hid hB
  have HW := Lib.hid hW
  have H := Lib.hid h
  have HR := Lib.hid hR
  clear h hR hB hZ hW
  go_enter Try.func25, Try.ntmps25
  go_upto_region 1 with fail
  rw [← HW.out]
  go_upto_region 2 with (first | (go_at_call 43; refine H43.out.mono ?_; rintro e w2 ⟨v, L', rfl, how, hm, hp, hb2⟩; have HOW := Lib.hid how; have HM := Lib.hid hm; have HP := Lib.hid hp; have HB2 := Lib.hid hb2; clear how hm hp hb2) | fail)
  obtain ⟨va, vc, rfl⟩ := owns_slice' HOW.out
  have hwl : w.heap.size < W1.heap.size := HZ.out.lt
  have hZ2 := HZ.out.keep HB2.out HZ.out.lt
  have HZ2 := Lib.hid hZ2
  have hBw : Below w.heap.size w w2 := HB.out.trans (HB2.out.mono (Nat.le_of_lt hwl))
  have HBW := Lib.hid hBw
  have z0 := hZ2.cell (j := 0) rfl
  have z1 := hZ2.cell (j := 1) rfl
  have k0 := hZ2.free 0
  have k1 := hZ2.free 1
  have zl := hZ2.lt
  clear hZ2 hBw
  cases L' with
  | nil =>
    have hs : nextS g S = none := by unfold nextS; rw [← HM.out]; rfl
    rw [hs] at HR
    clear hs
    go_wp2
    refine bodyPost_ret (v := nextV none) (by simp [results, Try.results25, go_sem, nextV, z0, z1]) rfl (HR.out _ _ ⟨rfl, ?_⟩)
    exact (HBW.out.setCell (Nat.le_refl _) _).setCell (Nat.le_refl _) _
  | cons y L'' =>
    have hs : nextS g S = if final y.1 then some (y.1.id, stampS g y.1) else none := by unfold nextS; rw [← HM.out]; rfl
    rw [hs] at HR
    have hyL : y ∈ L := HP.out.mem_iff.1 (List.mem_cons_self ..)
    have hh := H.out.below HBW.out
    have h44 := c44 (hh.gok hyL)
    obtain ⟨vk, vcap, hle, hvkl, hvcap⟩ := row_addr HOW.out (by simp)
    cases hle
    have hcr := CellsR.of HOW.out (i := 0) (y := y) rfl
    have HCR := Lib.hid hcr
    have hvw : vk ≠ w.heap.size := by have := (HOW.out.lt vk rfl).1; omega
    have hxne : x ≠ w.heap.size := by have := H.out.box.lt; omega
    obtain ⟨y0, y1, y2, y3, y4, y5, y6, yl⟩ := hcr
    have hlen2 : (((y :: L'').length : Int) == 0) = false := by simp <;> omega
    have hlen3 : (0 : Int) < ((y :: L'').length : Int) := by simp <;> omega
    have hlen4 : 0 < (y :: L'').length := by simp
    have h45 : ∀ W, Below w2.heap.size w2 W → Calls Try.prog 45 #[.pointer (some ⟨x, 0, none⟩), oneV y] W (StampE (stampS g y.1) W) := fun W hb => c45 (hh.below hb).box hh.g0 ((hh.below hb).gok hyL)
    have H45 := Lib.hid h45
    have H44 := Lib.hid h44
    rw [Nat.zero_mul] at y0 y1 y2 y3 y4 y5 y6 HCR
    generalize (y :: L'').length = n at *
    unfold oneV at H45 H44
    clear hs hyL hh h44 h45 HM HP H
    cases hfin : final y.1 with
    | false =>
      rw [hfin] at H44 HR
      have h0 := HZ2
      go_wp2_with (first | (go_at_call 44; refine H44.out.mono ?_; rintro e w3 ⟨rfl, hb3⟩; have hZ3 := HZ2.out.keep hb3 HZ2.out.lt; have u0 := hZ3.cell (j := 0) rfl; have u1 := hZ3.cell (j := 1) rfl; have v0 := hZ3.free 0; have v1 := hZ3.free 1; have vl := hZ3.lt; have HB3 := Lib.hid (HBW.out.trans (hb3.mono HBW.out.size)); clear hb3 hZ3) | fail)
      refine bodyPost_ret (v := nextV none) (by simp [results, Try.results25, go_sem, nextV, u0, u1]) rfl (HR.out _ _ ⟨rfl, ?_⟩)
      exact (HB3.out.setCell (Nat.le_refl _) _).setCell (Nat.le_refl _) _
    | true =>
      rw [hfin] at H44 HR
      have sk : ∀ W, W.heap.size ≥ w2.heap.size → (∀ k, k < w2.heap.size → k ≠ w.heap.size → W.heap[k]? = w2.heap[k]?) → CellsR vk 0 y W := fun W hsz hk => by
        obtain ⟨a0, a1, a2, a3, a4, a5, a6, al⟩ := HCR.out
        have e : ∀ {j : Nat} {u : Value}, w2.cell? ⟨vk, j, none⟩ = some u → W.cell? ⟨vk, j, none⟩ = some u := fun {j u} h4 => by rw [World.cell?_of_block (a := ⟨vk, j, none⟩) (hk vk al hvw)]; exact h4
        exact ⟨e a0, e a1, e a2, e a3, e a4, e a5, e a6, Nat.lt_of_lt_of_le al hsz⟩
      have SK := Lib.hid sk
      clear sk
      go_upto_region 4 with (first | (go_at_call 44; refine H44.out.mono ?_; rintro e w3 ⟨rfl, hb3⟩; have hZ3 := HZ2.out.keep hb3 HZ2.out.lt; have HZ3 := Lib.hid hZ3; have HB3 := Lib.hid hb3; have HS3 := Lib.hid (SK.out w3 hb3.size (fun k hk _ => hb3.block k hk)); clear hb3 hZ3) | fail)
      clear z0 z1 k0 k1 zl y0 y1 y2 y3 y4 y5 y6 yl
      refine wp_region_noPanic ?_
      refine till_start (CellsR vk 0 y) 11 (by kernel_rfl) ?_
      have hS := HS3.out
      show AnyTill _ _ _ _ _ _ 12 (Array.replicate 12 false) _ _
      refine till_take 0 (v := ?_) rfl (by kernel_rfl) (fun _ _ _ h => h) (Or.inl ⟨by rfl, ?_⟩) hS ?_
      rotate_left
      focus (intro w' hSw; obtain ⟨hs0, hs1, hs2, hs3, hs4, hs5, hs6, hsl⟩ := hSw; go_simp; try (with_reducible rfl))
      try simp only [Act.put, List.setIfInBounds_toArray, List.set_cons_zero, List.set_cons_succ]
      refine till_take 1 (v := ?_) rfl (by kernel_rfl) (fun _ _ _ h => h) (Or.inl ⟨by rfl, ?_⟩) hS ?_
      rotate_left
      focus (intro w' hSw; obtain ⟨hs0, hs1, hs2, hs3, hs4, hs5, hs6, hsl⟩ := hSw; go_simp; try (with_reducible rfl))
      try simp only [Act.put, List.setIfInBounds_toArray, List.set_cons_zero, List.set_cons_succ]
      refine till_take 2 (v := ?_) rfl (by kernel_rfl) (fun _ _ _ h => h) (Or.inl ⟨by rfl, ?_⟩) hS ?_
      rotate_left
      focus (intro w' hSw; obtain ⟨hs0, hs1, hs2, hs3, hs4, hs5, hs6, hsl⟩ := hSw; go_simp; try (with_reducible rfl))
      try simp only [Act.put, List.setIfInBounds_toArray, List.set_cons_zero, List.set_cons_succ]
      refine till_take 3 (v := ?_) rfl (by kernel_rfl) (fun _ _ _ h => h) (Or.inl ⟨by rfl, ?_⟩) hS ?_
      rotate_left
      focus (intro w' hSw; obtain ⟨hs0, hs1, hs2, hs3, hs4, hs5, hs6, hsl⟩ := hSw; go_simp; try (with_reducible rfl))
      try simp only [Act.put, List.setIfInBounds_toArray, List.set_cons_zero, List.set_cons_succ]
      refine till_take 4 (v := ?_) rfl (by kernel_rfl) (fun _ _ _ h => h) (Or.inl ⟨by rfl, ?_⟩) hS ?_
      rotate_left
      focus (intro w' hSw; obtain ⟨hs0, hs1, hs2, hs3, hs4, hs5, hs6, hsl⟩ := hSw; go_simp; try (with_reducible rfl))
      try simp only [Act.put, List.setIfInBounds_toArray, List.set_cons_zero, List.set_cons_succ]
      refine till_take 5 (v := ?_) rfl (by kernel_rfl) (fun _ _ _ h => h) (Or.inl ⟨by rfl, ?_⟩) hS ?_
      rotate_left
      focus (intro w' hSw; obtain ⟨hs0, hs1, hs2, hs3, hs4, hs5, hs6, hsl⟩ := hSw; go_simp; try (with_reducible rfl))
      try simp only [Act.put, List.setIfInBounds_toArray, List.set_cons_zero, List.set_cons_succ]
      refine till_take 6 (v := ?_) rfl (by kernel_rfl) (fun _ _ _ h => h) (Or.inl ⟨by rfl, ?_⟩) hS ?_
      rotate_left
      focus (intro w' hSw; obtain ⟨hs0, hs1, hs2, hs3, hs4, hs5, hs6, hsl⟩ := hSw; go_simp; try (with_reducible rfl))
      try simp only [Act.put, List.setIfInBounds_toArray, List.set_cons_zero, List.set_cons_succ]
      refine till_take 7 (v := ?_) rfl (by kernel_rfl) (fun _ _ _ h => h) (Or.inl ⟨by rfl, ?_⟩) hS ?_
      rotate_left
      focus (intro w' hSw; obtain ⟨hs0, hs1, hs2, hs3, hs4, hs5, hs6, hsl⟩ := hSw; go_simp; try (with_reducible rfl))
      try simp only [Act.put, List.setIfInBounds_toArray, List.set_cons_zero, List.set_cons_succ]
      refine till_ready [8] (by kernel_rfl) (TillReady.cons 8 rfl (fun K hK => ?_) TillReady.nil)
      go_simp
      refine (H45.out w3.drew (HB3.out.trans ((Below.refl _ _).drew.mono HB3.out.size))).mono ?_
      rintro e w4 ⟨rfl, hb4'⟩
      have hb4 : Below w2.heap.size w2 w4 := HB3.out.trans (((Below.refl w3.heap.size w3).drew.trans hb4').mono HB3.out.size)
      have hZ4 := HZ2.out.keep hb4 HZ2.out.lt
      have u0 := hZ4.cell (j := 0) rfl
      have u1 := hZ4.cell (j := 1) rfl
      have v0 := hZ4.free 0
      have v1 := hZ4.free 1
      have vl := hZ4.lt
      have HB4 := Lib.hid hb4
      have HZ4 := Lib.hid hZ4
      clear hS hb4'
      have hS := SK.out w4 hb4.size (fun k hk _ => hb4.block k hk)
      clear hb4 hZ4
      refine (Hid.out hK) _ _ (fun _ => hS) ?_
      try simp only [Act.put, List.setIfInBounds_toArray, List.set_cons_zero, List.set_cons_succ]
      refine till_ready [9] (by kernel_rfl) (TillReady.cons 9 rfl (fun K hK => ?_) TillReady.nil)
      go_simp
      have hZ5 : VarAt ((w4.setCell ⟨w.heap.size, 0, none⟩ (.int .i64 y.1.id.s)).setCell ⟨w.heap.size, 1, none⟩ (.int .i64 y.1.id.q)) w.heap.size 31 [.int .i64 y.1.id.s, .int .i64 y.1.id.q] := (HZ4.out.set 0 _).set 1 _
      have hB5 : Below w.heap.size w ((w4.setCell ⟨w.heap.size, 0, none⟩ (.int .i64 y.1.id.s)).setCell ⟨w.heap.size, 1, none⟩ (.int .i64 y.1.id.q)) := ((HBW.out.trans (HB4.out.mono HBW.out.size)).setCell (Nat.le_refl _) _).setCell (Nat.le_refl _) _
      clear hS
      have hS := SK.out ((w4.setCell ⟨w.heap.size, 0, none⟩ (.int .i64 y.1.id.s)).setCell ⟨w.heap.size, 1, none⟩ (.int .i64 y.1.id.q)) (by simpa using HB4.out.size) (fun k hk hne => by rw [Below.heap_setCell _ _ _ k (by simpa using hne), Below.heap_setCell _ _ _ k (by simpa using hne)]; exact HB4.out.block k hk)
      refine (Hid.out hK) _ _ (fun _ => hS) ?_
      try simp only [Act.put, List.setIfInBounds_toArray, List.set_cons_zero, List.set_cons_succ]
      refine till_take 10 (v := ?_) rfl (by kernel_rfl) (fun _ _ _ h => h) (Or.inl ⟨by rfl, ?_⟩) hS ?_
      rotate_left
      focus (intro w' hSw; obtain - := hSw; go_simp; try (with_reducible rfl))
      try simp only [Act.put, List.setIfInBounds_toArray, List.set_cons_zero, List.set_cons_succ]
      refine till_ready [11] (by kernel_rfl) (TillReady.cons 11 rfl (fun K hK => ?_) TillReady.nil)
      go_simp
      refine (Hid.out hK) _ _ (fun h => absurd rfl h) ?_
      refine till_done (by kernel_rfl) ?_
      refine NoPanic.normal ?_
      clear hS u0 u1 v0 v1
      generalize (w4.setCell ⟨w.heap.size, 0, none⟩ (.int .i64 y.1.id.s)).setCell ⟨w.heap.size, 1, none⟩ (.int .i64 y.1.id.q) = W5 at *
      have q0 := hZ5.cell (j := 0) rfl
      have q1 := hZ5.cell (j := 1) rfl
      go_wp2
      refine bodyPost_ret (v := nextV (some (y.1.id, stampS g y.1))) (by simp [results, Try.results25, go_sem, nextV, q0, q1]) rfl (HR.out _ _ ⟨rfl, hB5⟩)
end
end Go.Proofs.Ytamjdghjaimihaa
