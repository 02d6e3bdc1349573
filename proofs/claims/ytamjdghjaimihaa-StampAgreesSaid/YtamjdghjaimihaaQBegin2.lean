/- Begin: the walk. Conditions: each law's own. -/
import Derived.Test.YtamjdghjaimihaaQBegin
namespace Go.Proofs.Ytamjdghjaimihaa
open Go.ChangeShapes Go.WideShapes Go.ChangeAt Go.RowKit

theorem und76 : Try.prog.underlying 76 = some (.slice 80) := by kernel_rfl
theorem inf80 : (Try.prog.info? 80).map (fun i => (i.zero, i.size, i.bytes)) = some (some (.pointer none), 1, 8) := by kernel_rfl
theorem own_lower {w : World} {base base' : Nat} {e : TypeId} {size : Nat} {v : Value} {n : Nat} {xs : List Value} (h : w.ownsRow base e size v n xs) (hb : base' ≤ base) : w.ownsRow base' e size v n xs := by
  obtain ⟨h1, h2⟩ := h
  exact ⟨h1, h2.imp id fun ⟨g, cap, cur, a, b, c⟩ => ⟨g, cap, cur, a, Nat.le_trans hb b, c⟩⟩
theorem own_belowW {w w' : World} {base e size n : Nat} {v : Value} {xs : List Value} (h : w.ownsRow base e size v n xs) (hb : Below w.heap.size w w') : w'.ownsRow base e size v n xs := own_below (B := 0) h hb
def pairV (a e : Int) : Value := .tuple #[.int .u64 a, .int .i64 e]
section
variable {w : World} {x : Nat} {g : Int} {S : QS} {M : List MemO} {v : Value} {B : Nat}
set_option maxHeartbeats 8000000 in
set_option maxRecDepth 1000000 in
theorem c11 (h : QAt w x g S M v B) (id : IdD) {gv : Value} {groups : List Int} (hG : RowOf encG 1 w gv groups) (hgx' : 0 < groups.length → gv.ownBlock ≠ some x) (hgl : groups.length ≤ 1000) (hMl : M.length ≤ 1000) :
    Calls Try.prog 11 #[.pointer (some ⟨x, 0, none⟩), .agg #[.int .i64 id.s, .int .i64 id.q], gv] w (QEnd x g B w M v (pairV (beginS g S id groups).1.1 (beginS g S id groups).1.2) (beginS g S id groups).2) := by
  refine gen (S := QEnd x g B w M v (pairV (beginS g S id groups).1.1 (beginS g S id groups).1.2) (beginS g S id groups).2) fun R hR => ?_
  have hb0 : Below w.heap.size w (w.alloc (.cells #[.int .i64 id.s, .int .i64 id.q] 31)) := (Below.refl _ _).alloc (Nat.le_refl _) _
  have stay : ∀ a e, beginS g S id groups = ((a, e), S) → ∀ W, Below w.heap.size w W → R (.returned (.tuple #[.int .u64 a, .int .i64 e])) W := fun a e hd W hb => hR _ _ (by rw [hd]; exact ⟨rfl, M, v, h.below hb, QStep.of_below hb⟩)
  have STAY := Lib.hid stay
  have hI := VarAt.new w 31 [.int .i64 id.s, .int .i64 id.q]
  have h32 := c32 id.s id.q
  have hgx : goodId id.s id.q = goodX id := rfl
  rw [hgx] at h32
  have h33 := fun W (hb : Below w.heap.size w W) => c33 (h.below hb).box (hG.keep hb)
  have h34 := fun W (hb : Below w.heap.size w W) => c34 (h.below hb) id
  have H32 := Lib.hid h32
  have H33 := Lib.hid h33
  have H34 := Lib.hid h34
  have HQ := Lib.hid h
  have HG := Lib.hid hG
  have HB0 := Lib.hid hb0
  have HI := Lib.hid hI
  have HR := Lib.hid hR
  obtain ⟨ga, gc, rfl, -⟩ := _root_.id hG
  obtain ⟨ra, rc, rfl, -⟩ := _root_.id h.row
  clear h hG hb0 hI h32 hgx h33 h34 hR stay
  cases hgd : goodX id with
  | false =>
    have hd : beginS g S id groups = ((0, 2), S) := by unfold beginS; rw [hgd]; simp
    have END := Lib.hid (STAY.out _ _ hd)
    rw [hgd] at H32
    clear hd hgd
    go_enter Try.func11, Try.ntmps11
    go_wp2_with (first | (go_at_call 32; refine (H32.out _).mono ?_; rintro e w1 ⟨rfl, rfl⟩) | fail)
    go_tidy
    exact END.out _ (HB0.out.alloc HB0.out.size _)
  | true =>
    rw [hgd] at H32
    by_cases hr : Right g groups
    · have hrt : decide (Right g groups) = true := decide_eq_true hr
      rw [hrt] at H33
      have HRT := Lib.hid hr
      have HGD := Lib.hid hgd
      clear hr hrt hgd
      go_enter Try.func11, Try.ntmps11
      go_upto_region 4 with (first
        | (go_at_call 32; refine (H32.out _).mono ?_; rintro e w1 ⟨rfl, rfl⟩)
        | (go_at_call 33; refine (H33.out _ (HB0.out.alloc HB0.out.size _)).mono ?_; rintro e w1 ⟨rfl, rfl⟩)
        | (go_at_call 34; refine (H34.out _ (HB0.out.alloc HB0.out.size _)).mono ?_; rintro e w2 ⟨hb2, hn⟩; have HN := Lib.hid hn; have hb3 := (HB0.out.alloc HB0.out.size (.cells #[.int .i64 id.s, .int .i64 id.q] 31)).trans (hb2.mono (by simp; omega)); have HI2 := Lib.hid ((HI.out.alloc (.cells #[.int .i64 id.s, .int .i64 id.q] 31)).keep hb2 (by simp; omega)); have HB2 := Lib.hid hb3; clear hb2 hn hb3; rcases HN.out with ⟨rfl, hno⟩ | ⟨k, y, rfl, hy, he⟩)
        | fail)
      · have hq := HQ.out.below HB2.out
        have hlost := hq.lost hno
        have HNO := Lib.hid hno
        have f1 := hq.box.cell (j := 1) rfl
        have f2 := hq.box.cell (j := 2) rfl
        have k1 := hq.box.free 1
        have xl := hq.box.lt
        by_cases hc : 4611686018427387904 ≤ S.clock
        · have hd : beginS g S id groups = ((0, 7), S) := by
            unfold beginS
            rw [if_pos ⟨HGD.out, HRT.out⟩, hlost]
            simp only
            rw [if_pos (show S.clock ≥ mostS from hc)]
          have END := Lib.hid (STAY.out _ _ hd)
          clear hq hlost hno hd
          go_wp2
          go_tidy
          exact END.out _ HB2.out
        · have hcf : decide (4611686018427387904 ≤ S.clock) = false := decide_eq_false hc
          have hc0 := hq.ok.clock0
          have hd : beginS g S id groups = ((S.clock + 1, 0), ⟨S.clock + 1, S.L ++ [newOne g (S.clock + 1) id groups]⟩) := by
            unfold beginS
            rw [if_pos ⟨HGD.out, HRT.out⟩, hlost]
            simp only
            rw [if_neg (show ¬ S.clock ≥ mostS from hc)]
          have hend : ∀ W (M' : List MemO) (v' : Value), QAt W x g ⟨S.clock + 1, S.L ++ [newOne g (S.clock + 1) id groups]⟩ M' v' B → QStep x w M (.slice ra M.length rc) W M' v' → R (.returned (.tuple #[.int .u64 (S.clock + 1), .int .i64 0])) W := fun W M' v' h1 h2 => HR.out _ _ (by rw [hd]; exact ⟨rfl, M', v', h1, h2⟩)
          have END := Lib.hid hend
          have hw1 : IntKind.u64.wrap (S.clock + 1) = S.clock + 1 := IntWalk.u64_in _ (by omega)
          have hmid : Mid w (w2.setCell ⟨x, 1, none⟩ (.int .u64 (S.clock + 1))) x w.heap.size g (S.clock + 1) (.slice ra M.length rc) id := by
            refine ⟨hq.box.set 1 _, HI2.out.other (by have := HQ.out.box.lt; simp; omega) _, HB2.out.os, HB2.out.tape, HB2.out.output, by simpa using HB2.out.size, fun k hk hne => ?_⟩
            rw [Below.heap_setCell _ _ _ k (fun e => hne (by rw [e]))]; exact HB2.out.block k hk
          obtain ⟨W0, hW0⟩ : ∃ W0 : World, W0 = w2.setCell ⟨x, 1, none⟩ (.int .u64 (S.clock + 1)) := ⟨_, rfl⟩
          rw [← hW0] at hmid
          have HW0 := Lib.hid hW0
          have HMID := Lib.hid hmid
          have HOF := Lib.hid (show ∀ o ∈ S.L, o.id ≠ id from fun o ho => by
            have := List.find?_eq_none.1 hlost o ho
            simpa using this)
          have HCL := Lib.hid (show S.clock < mostS by unfold mostS; omega)
          clear hq hlost hno hd hend hW0 hmid HN
          go_upto_region 9 with fail
          rw [← HW0.out]
          clear f1 f2 k1 xl hw1 hcf hc
          have hpos : 0 < groups.length := List.length_pos_of_mem HRT.out.2.2
          obtain ⟨b, o, -, rfl, hbl, -, -⟩ := HG.out.gAt hpos
          have hbne : b ≠ x := fun e => hgx' hpos (by rw [e]; rfl)
          have hBs : W0.heap.size ≤ W0.heap.size := Nat.le_refl _
          have hIx : w.heap.size ≠ x ∧ (Value.slice ra M.length rc).ownBlock ≠ some w.heap.size := ⟨by have := HQ.out.box.lt; omega, fun e => by have := (HQ.out.lowR _ e).2; omega⟩
          have hgcell : ∀ W, Below W0.heap.size W0 W → ∀ j u, (groups.map (Value.int .i64))[j]? = some u → W.cell? ⟨b, o + j, none⟩ = some u := fun W hb j u hu => by
            have hblW : b < W0.heap.size := Nat.lt_of_lt_of_le hbl HMID.out.fr.size
            rw [hb.cell (p := ⟨b, o + j, none⟩) hblW]
            have e1 : W0.cell? ⟨b, o + j, none⟩ = w.cell? ⟨b, o + j, none⟩ := World.cell?_of_block (a := ⟨b, o + j, none⟩) (HMID.out.fr.block b hbl fun e => hbne (Option.some.inj e))
            rw [e1]
            have hj : j < groups.length := by have := (List.getElem?_eq_some_iff.1 hu).1; simpa using this
            obtain ⟨b', o', y, hbb, -, hy, hcy⟩ := HG.out.gAt hj
            cases hbb
            rw [List.getElem?_map, hy] at hu
            cases hu; exact hcy
          have HGC := Lib.hid hgcell
          have h35 := fun W (hb : Below W0.heap.size W0 W) => c35 b o groups.length gc (groups.map (Value.int .i64)) W (by simp) (by intro u hu; obtain ⟨z, -, rfl⟩ := List.mem_map.1 hu; rfl) (by omega) (fun j u hu => HGC.out W hb j u hu)
          have H35 := Lib.hid h35
          have xl0 := HMID.out.box.lt
          have zz := HMID.out.box.free 2
          clear hgcell h35 hbl
          have hmk : ∀ w, (Instr.makeMap 82 none).run Try.prog w = .ok (.map (some w.heap.size)) (w.alloc (.map #[] 0)) := fun _ => rfl
          have hH0 := HMID.out.below (Below.refl W0.heap.size W0).drew
          have hz0 : Below W0.heap.size W0 W0.drew := (Below.refl _ _).drew
          refine wp_region_noPanic ?_
          refine till_start (QBegS x w.heap.size (S.clock + 1) id (.slice ra M.length rc)) 22 (by kernel_rfl) ?_
          have hS := hH0.begS
          show AnyTill _ _ _ _ _ _ 23 (Array.replicate 23 false) _ _
          refine till_take 0 (v := ?_) rfl (by kernel_rfl) (fun _ _ _ h => h) (Or.inl ⟨by rfl, ?_⟩) hS ?_
          rotate_left
          focus (intro w' hSw; obtain ⟨hs1, hs2, hs3, hs4⟩ := hSw; go_simp; try (with_reducible rfl))
          try simp only [Act.put, List.setIfInBounds_toArray, List.set_cons_zero, List.set_cons_succ]
          refine till_take 1 (v := ?_) rfl (by kernel_rfl) (fun _ _ _ h => h) (Or.inl ⟨by rfl, ?_⟩) hS ?_
          rotate_left
          focus (intro w' hSw; obtain ⟨hs1, hs2, hs3, hs4⟩ := hSw; go_simp; try (with_reducible rfl))
          try simp only [Act.put, List.setIfInBounds_toArray, List.set_cons_zero, List.set_cons_succ]
          refine till_take 2 (v := ?_) rfl (by kernel_rfl) (fun _ _ _ h => h) (Or.inl ⟨by rfl, ?_⟩) hS ?_
          rotate_left
          focus (intro w' hSw; obtain ⟨hs1, hs2, hs3, hs4⟩ := hSw; go_simp; try (with_reducible rfl))
          try simp only [Act.put, List.setIfInBounds_toArray, List.set_cons_zero, List.set_cons_succ]
          refine till_take 3 (v := ?_) rfl (by kernel_rfl) (fun _ _ _ h => h) (Or.inl ⟨by rfl, ?_⟩) hS ?_
          rotate_left
          focus (intro w' hSw; obtain ⟨hs1, hs2, hs3, hs4⟩ := hSw; go_simp; try (with_reducible rfl))
          try simp only [Act.put, List.setIfInBounds_toArray, List.set_cons_zero, List.set_cons_succ]
          refine till_take 4 (v := ?_) rfl (by kernel_rfl) (fun _ _ _ h => h) (Or.inl ⟨by rfl, ?_⟩) hS ?_
          rotate_left
          focus (intro w' hSw; obtain ⟨hs1, hs2, hs3, hs4⟩ := hSw; go_simp; try (with_reducible rfl))
          try simp only [Act.put, List.setIfInBounds_toArray, List.set_cons_zero, List.set_cons_succ]
          refine till_take 5 (v := ?_) rfl (by kernel_rfl) (fun _ _ _ h => h) (Or.inl ⟨by rfl, ?_⟩) hS ?_
          rotate_left
          focus (intro w' hSw; obtain ⟨hs1, hs2, hs3, hs4⟩ := hSw; go_simp; try (with_reducible rfl))
          try simp only [Act.put, List.setIfInBounds_toArray, List.set_cons_zero, List.set_cons_succ]
          refine till_take 6 (v := ?_) rfl (by kernel_rfl) (fun _ _ _ h => h) (Or.inl ⟨by rfl, ?_⟩) hS ?_
          rotate_left
          focus (intro w' hSw; obtain ⟨hs1, hs2, hs3, hs4⟩ := hSw; go_simp; try (with_reducible rfl))
          try simp only [Act.put, List.setIfInBounds_toArray, List.set_cons_zero, List.set_cons_succ]
          refine till_take 8 (v := ?_) rfl (by kernel_rfl) (fun _ _ _ h => h) (Or.inl ⟨by rfl, ?_⟩) hS ?_
          rotate_left
          focus (intro w' hSw; obtain ⟨hs1, hs2, hs3, hs4⟩ := hSw; go_simp; try (with_reducible rfl))
          try simp only [Act.put, List.setIfInBounds_toArray, List.set_cons_zero, List.set_cons_succ]
          refine till_take 9 (v := ?_) rfl (by kernel_rfl) (fun _ _ _ h => h) (Or.inl ⟨by rfl, ?_⟩) hS ?_
          rotate_left
          focus (intro w' hSw; obtain ⟨hs1, hs2, hs3, hs4⟩ := hSw; go_simp; try (with_reducible rfl))
          try simp only [Act.put, List.setIfInBounds_toArray, List.set_cons_zero, List.set_cons_succ]
          refine till_take 10 (v := ?_) rfl (by kernel_rfl) (fun _ _ _ h => h) (Or.inl ⟨by rfl, ?_⟩) hS ?_
          rotate_left
          focus (intro w' hSw; obtain ⟨hs1, hs2, hs3, hs4⟩ := hSw; go_simp; try (with_reducible rfl))
          try simp only [Act.put, List.setIfInBounds_toArray, List.set_cons_zero, List.set_cons_succ]
          refine till_take 11 (v := ?_) rfl (by kernel_rfl) (fun _ _ _ h => h) (Or.inl ⟨by rfl, ?_⟩) hS ?_
          rotate_left
          focus (intro w' hSw; obtain ⟨hs1, hs2, hs3, hs4⟩ := hSw; go_simp; try (with_reducible rfl))
          try simp only [Act.put, List.setIfInBounds_toArray, List.set_cons_zero, List.set_cons_succ]
          refine till_take 13 (v := ?_) rfl (by kernel_rfl) (fun _ _ _ h => h) (Or.inl ⟨by rfl, ?_⟩) hS ?_
          rotate_left
          focus (intro w' hSw; obtain ⟨hs1, hs2, hs3, hs4⟩ := hSw; go_simp; try (with_reducible rfl))
          try simp only [Act.put, List.setIfInBounds_toArray, List.set_cons_zero, List.set_cons_succ]
          refine till_take 14 (v := ?_) rfl (by kernel_rfl) (fun _ _ _ h => h) (Or.inl ⟨by rfl, ?_⟩) hS ?_
          rotate_left
          focus (intro w' hSw; obtain ⟨hs1, hs2, hs3, hs4⟩ := hSw; go_simp; try (with_reducible rfl))
          try simp only [Act.put, List.setIfInBounds_toArray, List.set_cons_zero, List.set_cons_succ]
          refine till_take 15 (v := ?_) rfl (by kernel_rfl) (fun _ _ _ h => h) (Or.inl ⟨by rfl, ?_⟩) hS ?_
          rotate_left
          focus (intro w' hSw; obtain ⟨hs1, hs2, hs3, hs4⟩ := hSw; go_simp; try (with_reducible rfl))
          try simp only [Act.put, List.setIfInBounds_toArray, List.set_cons_zero, List.set_cons_succ]
          refine till_ready [7, 12] (by kernel_rfl) ?_
          refine TillReady.cons 7 rfl (fun K hK => ?_) (TillReady.cons 12 rfl (fun K hK => ?_) TillReady.nil)
          · go_simp
            refine (H35.out W0.drew hz0).mono ?_
            rintro e w4 ⟨gv2, rfl, hgs, -, hb4⟩
            obtain ⟨ga2, gc2, rfl⟩ : ∃ a c, gv2 = .slice a groups.length c := by
              obtain ⟨-, ⟨h1, h2⟩ | ⟨k, cap, cur, h1, -⟩⟩ := _root_.id hgs
              · rw [h2]; exact ⟨none, 0, h1⟩
              · exact ⟨_, _, h1⟩
            have hH := hH0.below hb4
            have hzA := hz0.trans hb4
            clear hS
            have hS := hH.begS
            refine (Hid.out hK) _ _ (fun _ => hS) ?_
            try simp only [Act.put, List.setIfInBounds_toArray, List.set_cons_zero, List.set_cons_succ]
            refine till_ready [12] (by kernel_rfl) (TillReady.cons 12 rfl (fun K hK => ?_) TillReady.nil)
            go_simp
            have hH := hH.below ((Below.refl w4.heap.size w4).alloc (Nat.le_refl _) (.map #[] 0))
            have hmap : (w4.alloc (.map #[] 0)).heap[w4.heap.size]? = some (.map #[] 0) := heap_alloc_new w4 _
            have hmlt : w4.heap.size < (w4.alloc (.map #[] 0)).heap.size := by simp
            have hmw : w.heap.size ≤ w4.heap.size := by have := HMID.out.fr.size; have := hzA.size; omega
            have hgs := own_belowW hgs ((Below.refl w4.heap.size w4).alloc (Nat.le_refl _) (.map #[] 0))
            have hgsb : w.heap.size ≤ W0.drew.heap.size := HMID.out.fr.size
            have hzB := hzA.alloc hzA.size (.map #[] 0)
            have hS := hH.begS
            refine (Hid.out hK) _ _ (fun _ => hS) ?_
            try simp only [Act.put, List.setIfInBounds_toArray, List.set_cons_zero, List.set_cons_succ]
            refine till_take 16 (v := ?_) rfl (by kernel_rfl) (fun _ _ _ h => h) (Or.inl ⟨by rfl, ?_⟩) hS ?_
            rotate_left
            focus (intro w' hSw; obtain ⟨hs1, hs2, hs3, hs4⟩ := hSw; go_simp; try (with_reducible rfl))
            try simp only [Act.put, List.setIfInBounds_toArray, List.set_cons_zero, List.set_cons_succ]
            refine till_ready [17] (by kernel_rfl) (TillReady.cons 17 rfl (fun K hK => ?_) TillReady.nil)
            go_simp
            have hH := hH.below ((Below.refl _ _).alloc (Nat.le_refl _) (.cells #[.int .i64 id.s, .int .i64 id.q, .slice ga2 groups.length gc2, .int .u64 (S.clock + 1), .map (some w4.heap.size), .bool ((groups.length : Int) == 1)] 84))
            have hS := hH.begS
            refine (Hid.out hK) _ _ (fun _ => hS) ?_
            try simp only [Act.put, List.setIfInBounds_toArray, List.set_cons_zero, List.set_cons_succ]
            refine till_ready [18] (by kernel_rfl) (TillReady.cons 18 rfl (fun K hK => ?_) TillReady.nil)
            go_simp
            have hH := hH.below ((Below.refl _ _).alloc (Nat.le_refl _) (.cells #[.pointer (some ⟨w4.heap.size + 1, 0, none⟩)] 80))
            have hS := hH.begS
            refine (Hid.out hK) _ _ (fun _ => hS) ?_
            try simp only [Act.put, List.setIfInBounds_toArray, List.set_cons_zero, List.set_cons_succ]
            refine till_ready [19] (by kernel_rfl) (TillReady.cons 19 rfl (fun K hK => ?_) TillReady.nil)
            have hrow1 := HQ.out.rowMid hH.fr
            have hz1 : Below (w4.alloc (.map #[] 0)).heap.size (w4.alloc (.map #[] 0)) (((w4.alloc (.map #[] 0)).alloc (.cells #[.int .i64 id.s, .int .i64 id.q, .slice ga2 groups.length gc2, .int .u64 (S.clock + 1), .map (some w4.heap.size), .bool ((groups.length : Int) == 1)] 84)).alloc (.cells #[.pointer (some ⟨w4.heap.size + 1, 0, none⟩)] 80)) := ((Below.refl (w4.alloc (.map #[] 0)).heap.size (w4.alloc (.map #[] 0))).alloc (Nat.le_refl _) (.cells #[.int .i64 id.s, .int .i64 id.q, .slice ga2 groups.length gc2, .int .u64 (S.clock + 1), .map (some w4.heap.size), .bool ((groups.length : Int) == 1)] 84)).alloc (by simp) _
            have hp1 : VarAt (((w4.alloc (.map #[] 0)).alloc (.cells #[.int .i64 id.s, .int .i64 id.q, .slice ga2 groups.length gc2, .int .u64 (S.clock + 1), .map (some w4.heap.size), .bool ((groups.length : Int) == 1)] 84)).alloc (.cells #[.pointer (some ⟨w4.heap.size + 1, 0, none⟩)] 80)) (w4.heap.size + 1) 84 (encOne id.s id.q (.slice ga2 groups.length gc2) (S.clock + 1) (.map (some w4.heap.size)) ((groups.length : Int) == 1)) := by
              have := (VarAt.new (w4.alloc (.map #[] 0)) 84 (encOne id.s id.q (.slice ga2 groups.length gc2) (S.clock + 1) (.map (some w4.heap.size)) ((groups.length : Int) == 1))).alloc (.cells #[.pointer (some ⟨w4.heap.size + 1, 0, none⟩)] 80)
              simpa [encOne] using this
            have hm1 : (((w4.alloc (.map #[] 0)).alloc (.cells #[.int .i64 id.s, .int .i64 id.q, .slice ga2 groups.length gc2, .int .u64 (S.clock + 1), .map (some w4.heap.size), .bool ((groups.length : Int) == 1)] 84)).alloc (.cells #[.pointer (some ⟨w4.heap.size + 1, 0, none⟩)] 80)).heap[w4.heap.size]? = some (.map #[] 0) := by rw [hz1.block _ hmlt]; exact hmap
            have hgs1 := own_lower (own_belowW hgs hz1) (base' := w.heap.size) hgsb
            have hrc : (((w4.alloc (.map #[] 0)).alloc (.cells #[.int .i64 id.s, .int .i64 id.q, .slice ga2 groups.length gc2, .int .u64 (S.clock + 1), .map (some w4.heap.size), .bool ((groups.length : Int) == 1)] 84)).alloc (.cells #[.pointer (some ⟨w4.heap.size + 1, 0, none⟩)] 80)).cell? ⟨w4.heap.size + 1 + 1, 0, none⟩ = some (.pointer (some ⟨w4.heap.size + 1, 0, none⟩)) := by
              have := (VarAt.new ((w4.alloc (.map #[] 0)).alloc (.cells #[.int .i64 id.s, .int .i64 id.q, .slice ga2 groups.length gc2, .int .u64 (S.clock + 1), .map (some w4.heap.size), .bool ((groups.length : Int) == 1)] 84)) 80 [.pointer (some ⟨w4.heap.size + 1, 0, none⟩)]).cell (j := 0) rfl
              simpa using this
            refine step_append_tail (((w4.alloc (.map #[] 0)).alloc (.cells #[.int .i64 id.s, .int .i64 id.q, .slice ga2 groups.length gc2, .int .u64 (S.clock + 1), .map (some w4.heap.size), .bool ((groups.length : Int) == 1)] 84)).alloc (.cells #[.pointer (some ⟨w4.heap.size + 1, 0, none⟩)] 80)) rfl (.tmp 47) (.tmp 61) 76 rfl B 80 (.pointer none) 8 und76 inf80 rfl (.pointer (some ⟨w4.heap.size + 1, 0, none⟩)) rfl (.slice ra M.length rc) M.length (M.map ptr) (by rfl) hrow1 (w4.heap.size + 1 + 1) (by rfl) hrc (by unfold maxLen; omega) (by omega) (by have := hH.fr.size; have := HQ.out.lowX; have := HQ.out.box.lt; omega) ?_
            intro v2 w3 hT3 hg3 hvv3
            have hgot := HQ.out.got (id := id) (groups := groups) HRT.out HOF.out HCL.out hH hIx hp1 hm1 hgs1 (by have := HMID.out.fr.size; have := hzB.size; omega) (by omega) hT3 hg3 hvv3
            obtain ⟨a2, c2, rfl, -⟩ := _root_.id hT3
            have hc2 := hgot.1.cell (j := 2) rfl
            have hz2 := hgot.1.free 2
            have hl2 := hgot.1.lt
            have hS : QBegS x w.heap.size (S.clock + 1) id (.slice ra M.length rc) w3 := ⟨hgot.1.cell (j := 1) rfl, hgot.2.1.cell (j := 0) rfl, hgot.2.1.cell (j := 1) rfl, hgot.1.cell (j := 2) rfl⟩
            refine (Hid.out hK) _ _ (fun _ => hS) ?_
            try simp only [Act.put, List.setIfInBounds_toArray, List.set_cons_zero, List.set_cons_succ]
            refine till_take 20 (v := ?_) rfl (by kernel_rfl) (fun _ _ _ h => h) (Or.inl ⟨by rfl, ?_⟩) hS ?_
            rotate_left
            focus (intro w' hSw; obtain ⟨hs1, hs2, hs3, hs4⟩ := hSw; go_simp; try (with_reducible rfl))
            try simp only [Act.put, List.setIfInBounds_toArray, List.set_cons_zero, List.set_cons_succ]
            refine till_take 21 (v := ?_) rfl (by kernel_rfl) (fun _ _ _ h => h) (Or.inl ⟨by rfl, ?_⟩) hS ?_
            rotate_left
            focus (intro w' hSw; obtain ⟨hs1, hs2, hs3, hs4⟩ := hSw; go_simp; try (with_reducible rfl))
            try simp only [Act.put, List.setIfInBounds_toArray, List.set_cons_zero, List.set_cons_succ]
            refine till_ready [22] (by kernel_rfl) (TillReady.cons 22 rfl (fun K hK => ?_) TillReady.nil)
            go_simp
            refine (Hid.out hK) _ _ (fun h => absurd rfl h) ?_
            refine till_done (by kernel_rfl) ?_
            refine NoPanic.normal ?_
            obtain ⟨-, -, M2, hM2, hraw, hstep⟩ := hgot
            have HC36 := Lib.hid (c36r hraw (by omega) (by omega))
            have HSTEP := Lib.hid hstep
            clear hc2 hz2 hS hraw hstep hM2 hl2
            go_wp2_with (first | (go_at_call 36; refine HC36.out.mono ?_; rintro e w5 ⟨rfl, M3, hq5, hs5⟩; have HQ5 := Lib.hid (And.intro hq5 (HSTEP.out.trans hs5)); have e1 := hq5.box.cell (j := 1) rfl; have el := hq5.box.lt; clear hq5 hs5) | fail)
            go_tidy
            exact END.out _ _ _ HQ5.out.1 HQ5.out.2
          · go_simp
            have hH := hH0.below ((Below.refl W0.drew.heap.size W0.drew).alloc (Nat.le_refl _) (.map #[] 0))
            have hzM := hz0.alloc hz0.size (.map #[] 0)
            have hS := hH.begS
            refine (Hid.out hK) _ _ (fun _ => hS) ?_
            try simp only [Act.put, List.setIfInBounds_toArray, List.set_cons_zero, List.set_cons_succ]
            refine till_ready [7] (by kernel_rfl) (TillReady.cons 7 rfl (fun K hK => ?_) TillReady.nil)
            go_simp
            refine (H35.out (W0.drew.alloc (.map #[] 0)) hzM).mono ?_
            rintro e w4 ⟨gv2, rfl, hgs, -, hb4⟩
            obtain ⟨ga2, gc2, rfl⟩ : ∃ a c, gv2 = .slice a groups.length c := by
              obtain ⟨-, ⟨h1, h2⟩ | ⟨k, cap, cur, h1, -⟩⟩ := _root_.id hgs
              · rw [h2]; exact ⟨none, 0, h1⟩
              · exact ⟨_, _, h1⟩
            have hH := hH.below hb4
            have hzA := hzM.trans (hb4.mono (by simp))
            have hmap : w4.heap[W0.heap.size]? = some (.map #[] 0) := by
              rw [hb4.block _ (by simp)]; exact heap_alloc_new W0.drew _
            have hmlt : W0.heap.size < w4.heap.size := by have := hb4.size; simp at this; omega
            have hmw : w.heap.size ≤ W0.heap.size := HMID.out.fr.size
            have hgsb : w.heap.size ≤ (W0.drew.alloc (.map #[] 0)).heap.size := by have := HMID.out.fr.size; simp; omega
            clear hS
            have hS := hH.begS
            refine (Hid.out hK) _ _ (fun _ => hS) ?_
            try simp only [Act.put, List.setIfInBounds_toArray, List.set_cons_zero, List.set_cons_succ]
            refine till_take 16 (v := ?_) rfl (by kernel_rfl) (fun _ _ _ h => h) (Or.inl ⟨by rfl, ?_⟩) hS ?_
            rotate_left
            focus (intro w' hSw; obtain ⟨hs1, hs2, hs3, hs4⟩ := hSw; go_simp; try (with_reducible rfl))
            try simp only [Act.put, List.setIfInBounds_toArray, List.set_cons_zero, List.set_cons_succ]
            refine till_ready [17] (by kernel_rfl) (TillReady.cons 17 rfl (fun K hK => ?_) TillReady.nil)
            go_simp
            have hH := hH.below ((Below.refl _ _).alloc (Nat.le_refl _) (.cells #[.int .i64 id.s, .int .i64 id.q, .slice ga2 groups.length gc2, .int .u64 (S.clock + 1), .map (some W0.heap.size), .bool ((groups.length : Int) == 1)] 84))
            have hS := hH.begS
            refine (Hid.out hK) _ _ (fun _ => hS) ?_
            try simp only [Act.put, List.setIfInBounds_toArray, List.set_cons_zero, List.set_cons_succ]
            refine till_ready [18] (by kernel_rfl) (TillReady.cons 18 rfl (fun K hK => ?_) TillReady.nil)
            go_simp
            have hH := hH.below ((Below.refl _ _).alloc (Nat.le_refl _) (.cells #[.pointer (some ⟨w4.heap.size, 0, none⟩)] 80))
            have hS := hH.begS
            refine (Hid.out hK) _ _ (fun _ => hS) ?_
            try simp only [Act.put, List.setIfInBounds_toArray, List.set_cons_zero, List.set_cons_succ]
            refine till_ready [19] (by kernel_rfl) (TillReady.cons 19 rfl (fun K hK => ?_) TillReady.nil)
            have hrow1 := HQ.out.rowMid hH.fr
            have hz1 : Below w4.heap.size w4 ((w4.alloc (.cells #[.int .i64 id.s, .int .i64 id.q, .slice ga2 groups.length gc2, .int .u64 (S.clock + 1), .map (some W0.heap.size), .bool ((groups.length : Int) == 1)] 84)).alloc (.cells #[.pointer (some ⟨w4.heap.size, 0, none⟩)] 80)) := ((Below.refl w4.heap.size w4).alloc (Nat.le_refl _) (.cells #[.int .i64 id.s, .int .i64 id.q, .slice ga2 groups.length gc2, .int .u64 (S.clock + 1), .map (some W0.heap.size), .bool ((groups.length : Int) == 1)] 84)).alloc (by simp) _
            have hp1 : VarAt ((w4.alloc (.cells #[.int .i64 id.s, .int .i64 id.q, .slice ga2 groups.length gc2, .int .u64 (S.clock + 1), .map (some W0.heap.size), .bool ((groups.length : Int) == 1)] 84)).alloc (.cells #[.pointer (some ⟨w4.heap.size, 0, none⟩)] 80)) (w4.heap.size) 84 (encOne id.s id.q (.slice ga2 groups.length gc2) (S.clock + 1) (.map (some W0.heap.size)) ((groups.length : Int) == 1)) := by
              have := (VarAt.new w4 84 (encOne id.s id.q (.slice ga2 groups.length gc2) (S.clock + 1) (.map (some W0.heap.size)) ((groups.length : Int) == 1))).alloc (.cells #[.pointer (some ⟨w4.heap.size, 0, none⟩)] 80)
              simpa [encOne] using this
            have hm1 : ((w4.alloc (.cells #[.int .i64 id.s, .int .i64 id.q, .slice ga2 groups.length gc2, .int .u64 (S.clock + 1), .map (some W0.heap.size), .bool ((groups.length : Int) == 1)] 84)).alloc (.cells #[.pointer (some ⟨w4.heap.size, 0, none⟩)] 80)).heap[W0.heap.size]? = some (.map #[] 0) := by rw [hz1.block _ hmlt]; exact hmap
            have hgs1 := own_lower (own_belowW hgs hz1) (base' := w.heap.size) hgsb
            have hrc : ((w4.alloc (.cells #[.int .i64 id.s, .int .i64 id.q, .slice ga2 groups.length gc2, .int .u64 (S.clock + 1), .map (some W0.heap.size), .bool ((groups.length : Int) == 1)] 84)).alloc (.cells #[.pointer (some ⟨w4.heap.size, 0, none⟩)] 80)).cell? ⟨w4.heap.size + 1, 0, none⟩ = some (.pointer (some ⟨w4.heap.size, 0, none⟩)) := by
              have := (VarAt.new (w4.alloc (.cells #[.int .i64 id.s, .int .i64 id.q, .slice ga2 groups.length gc2, .int .u64 (S.clock + 1), .map (some W0.heap.size), .bool ((groups.length : Int) == 1)] 84)) 80 [.pointer (some ⟨w4.heap.size, 0, none⟩)]).cell (j := 0) rfl
              simp
            refine step_append_tail ((w4.alloc (.cells #[.int .i64 id.s, .int .i64 id.q, .slice ga2 groups.length gc2, .int .u64 (S.clock + 1), .map (some W0.heap.size), .bool ((groups.length : Int) == 1)] 84)).alloc (.cells #[.pointer (some ⟨w4.heap.size, 0, none⟩)] 80)) rfl (.tmp 47) (.tmp 61) 76 rfl B 80 (.pointer none) 8 und76 inf80 rfl (.pointer (some ⟨w4.heap.size, 0, none⟩)) rfl (.slice ra M.length rc) M.length (M.map ptr) (by rfl) hrow1 (w4.heap.size + 1) (by rfl) hrc (by unfold maxLen; omega) (by omega) (by have := hH.fr.size; have := HQ.out.lowX; have := HQ.out.box.lt; omega) ?_
            intro v2 w3 hT3 hg3 hvv3
            have hgot := HQ.out.got (id := id) (groups := groups) HRT.out HOF.out HCL.out hH hIx hp1 hm1 hgs1 (by have := HMID.out.fr.size; have := hzA.size; omega) (by omega) hT3 hg3 hvv3
            obtain ⟨a2, c2, rfl, -⟩ := _root_.id hT3
            have hc2 := hgot.1.cell (j := 2) rfl
            have hz2 := hgot.1.free 2
            have hl2 := hgot.1.lt
            have hS : QBegS x w.heap.size (S.clock + 1) id (.slice ra M.length rc) w3 := ⟨hgot.1.cell (j := 1) rfl, hgot.2.1.cell (j := 0) rfl, hgot.2.1.cell (j := 1) rfl, hgot.1.cell (j := 2) rfl⟩
            refine (Hid.out hK) _ _ (fun _ => hS) ?_
            try simp only [Act.put, List.setIfInBounds_toArray, List.set_cons_zero, List.set_cons_succ]
            refine till_take 20 (v := ?_) rfl (by kernel_rfl) (fun _ _ _ h => h) (Or.inl ⟨by rfl, ?_⟩) hS ?_
            rotate_left
            focus (intro w' hSw; obtain ⟨hs1, hs2, hs3, hs4⟩ := hSw; go_simp; try (with_reducible rfl))
            try simp only [Act.put, List.setIfInBounds_toArray, List.set_cons_zero, List.set_cons_succ]
            refine till_take 21 (v := ?_) rfl (by kernel_rfl) (fun _ _ _ h => h) (Or.inl ⟨by rfl, ?_⟩) hS ?_
            rotate_left
            focus (intro w' hSw; obtain ⟨hs1, hs2, hs3, hs4⟩ := hSw; go_simp; try (with_reducible rfl))
            try simp only [Act.put, List.setIfInBounds_toArray, List.set_cons_zero, List.set_cons_succ]
            refine till_ready [22] (by kernel_rfl) (TillReady.cons 22 rfl (fun K hK => ?_) TillReady.nil)
            go_simp
            refine (Hid.out hK) _ _ (fun h => absurd rfl h) ?_
            refine till_done (by kernel_rfl) ?_
            refine NoPanic.normal ?_
            obtain ⟨-, -, M2, hM2, hraw, hstep⟩ := hgot
            have HC36 := Lib.hid (c36r hraw (by omega) (by omega))
            have HSTEP := Lib.hid hstep
            clear hc2 hz2 hS hraw hstep hM2 hl2
            go_wp2_with (first | (go_at_call 36; refine HC36.out.mono ?_; rintro e w5 ⟨rfl, M3, hq5, hs5⟩; have HQ5 := Lib.hid (And.intro hq5 (HSTEP.out.trans hs5)); have e1 := hq5.box.cell (j := 1) rfl; have el := hq5.box.lt; clear hq5 hs5) | fail)
            go_tidy
            exact END.out _ _ _ HQ5.out.1 HQ5.out.2
      · have hym := List.mem_of_getElem? hy
        have hf := HQ.out.found hym
        rw [he] at hf
        have hd : beginS g S id groups = ((y.o.kn g, 11), S) := by
          unfold beginS
          rw [if_pos ⟨HGD.out, HRT.out⟩, hf]
        have END := Lib.hid (STAY.out _ _ hd)
        have hyb := ((HQ.out.below HB2.out).ones y hym).box
        have b3 := hyb.cell (j := 3) rfl
        have bl := hyb.lt
        clear hy he hym hf hd hyb HN
        unfold ptr
        go_wp2
        go_tidy
        exact END.out _ HB2.out
    · have hrf : decide (Right g groups) = false := decide_eq_false hr
      rw [hrf] at H33
      have hd : beginS g S id groups = ((0, 2), S) := by unfold beginS; rw [if_neg (fun h => hr h.2)]
      have END := Lib.hid (STAY.out _ _ hd)
      clear hd hgd hr hrf
      go_enter Try.func11, Try.ntmps11
      go_wp2_with (first
        | (go_at_call 32; refine (H32.out _).mono ?_; rintro e w1 ⟨rfl, rfl⟩)
        | (go_at_call 33; refine (H33.out _ (HB0.out.alloc HB0.out.size _)).mono ?_; rintro e w1 ⟨rfl, rfl⟩)
        | fail)
      go_tidy
      exact END.out _ (HB0.out.alloc HB0.out.size _)
end
end Go.Proofs.Ytamjdghjaimihaa
