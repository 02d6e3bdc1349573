/- The reference: one begins. Conditions: each law's own. -/
import Derived.Test.YtamjdghjaimihaaRLearn
namespace Go.Proofs.Ytamjdghjaimihaa
open Go.ChangeShapes Go.WideShapes Go.ChangeAt Go.RowKit

section
variable {w : World} {x : Nat} {g : Int} {S : QS} {L : List RefO} {lv : Value} {B : Nat}
/-- One more is stored. -/
theorem RefAt.pushed (h : RefAt w x g S L lv B) {id : IdD} {groups : List Int} (hr : Right g groups) (hno : ∀ o ∈ S.L, o.id ≠ id) (hc : S.clock < mostS) {W1 W2 : World} {gv v2 : Value} (hf : w.grownBy W1 (some x)) (hbox : VarAt W1 x 64 [.int .i64 g, .int .u64 (S.clock + 1), lv])
    (hgs : W1.ownsRow w.heap.size 3 1 gv groups.length (groups.map (Value.int .i64))) (hT : W2.ownsRow B 55 7 v2 (L.length + 1) (L.flatMap encR ++ encR (newOne g (S.clock + 1) id groups, gv))) (hg : W1.grownBy W2 lv.ownBlock) (hvv : v2.ownBlock = lv.ownBlock ∨ ∃ k, v2.ownBlock = some k ∧ W1.heap.size ≤ k) :
    RefAt (W2.setCell ⟨x, 2, none⟩ v2) x g ⟨S.clock + 1, S.L ++ [newOne g (S.clock + 1) id groups]⟩ (L ++ [(newOne g (S.clock + 1) id groups, gv)]) v2 B ∧ RStep x w L lv (W2.setCell ⟨x, 2, none⟩ v2) (L ++ [(newOne g (S.clock + 1) id groups, gv)]) v2 := by
  have hBw : B ≤ w.heap.size := Nat.le_of_lt (Nat.lt_of_le_of_lt h.lowX h.box.lt)
  have hxl := h.box.lt
  have hW1 := hf.size
  have hlvx := h.lx
  have hlvl : ∀ k, lv.ownBlock = some k → k < w.heap.size := fun k hk => (h.row.lt k hk).2
  have ks : ∀ j, j ≠ x → (W2.setCell ⟨x, 2, none⟩ v2).heap[j]? = W2.heap[j]? := fun j hj => Below.heap_setCell _ _ _ j (by simpa using hj)
  have keep2 : ∀ k, k < W1.heap.size → lv.ownBlock ≠ some k → k ≠ x → (W2.setCell ⟨x, 2, none⟩ v2).heap[k]? = W1.heap[k]? := fun k hk hn hx => by
    rw [ks k hx]; exact hg.block k hk (fun e => hn e.symm)
  have hv2 : ∀ k, v2.ownBlock = some k → lv.ownBlock = some k ∨ W1.heap.size ≤ k := fun k hk => by
    rcases hvv with e | ⟨k', e, hk'⟩
    · exact .inl (e ▸ hk)
    · rw [hk] at e; cases e; exact .inr hk'
  have hv2x : v2.ownBlock ≠ some x := fun e => by
    rcases hv2 x e with h1 | h1
    · exact hlvx h1
    · omega
  refine ⟨⟨?_, ?_, ?_, h.ok.begin h.g0 hr hno hc, fun z hz => ?_, h.lowX, h.g0⟩, ⟨hg.os.trans hf.os, hg.tape.trans hf.tape, hg.output.trans hf.output, by simpa using Nat.le_trans hf.size hg.size, fun k hk hn => ?_, fun k hk => ?_, fun k hk => ?_⟩⟩
  · exact (hbox.grown hg (fun e => hlvx e.symm)).set 2 v2
  · have e1 : (L ++ [(newOne g (S.clock + 1) id groups, gv)]).length = L.length + 1 := by simp
    have e2 : (L ++ [(newOne g (S.clock + 1) id groups, gv)]).flatMap encR = L.flatMap encR ++ encR (newOne g (S.clock + 1) id groups, gv) := by rw [List.flatMap_append]; simp
    rw [e1, e2]
    exact ownsRow_keep hT fun k hk => ks k fun e => hv2x (by rw [hk, e])
  · rw [List.map_append, h.lst]; rfl
  · rcases List.mem_append.1 hz with h1 | h1
    · refine ownsRow_keep (h.gs z h1) fun k hk => ?_
      have hkl := ((h.gs z h1).lt k hk).2
      have hkx : k ≠ x := fun e => (h.gx h1).1 (by rw [hk, e])
      rw [keep2 k (by omega) (fun e => (h.gx h1).2 k e hk) hkx]
      exact hf.block k hkl fun e => hkx (Option.some.inj e)
    · simp at h1; subst h1
      refine own_lower (ownsRow_keep hgs fun k hk => ?_) hBw
      have hkl := hgs.lt k hk
      exact keep2 k hkl.2 (fun e => by have := hlvl k e; omega) (by omega)
  · have hkx : k ≠ x := fun e => hn (.inl e)
    rw [keep2 k (by omega) (fun e => hn (.inr e)) hkx]
    exact hf.block k hk fun e => hkx (Option.some.inj e)
  · rcases hk with h1 | h1
    · exact .inl (.inl h1)
    · rcases hv2 k h1 with h2 | h2
      · exact .inl (.inr h2)
      · right; omega
  · rcases hk with (h1 | h1) | ⟨z, hz, hk⟩
    · exact .inl (.inl (.inl h1))
    · rcases hv2 k h1 with h2 | h2
      · exact .inl (.inl (.inr h2))
      · right; omega
    · rcases List.mem_append.1 hz with h1 | h1
      · exact .inl (.inr ⟨z, h1, hk⟩)
      · simp at h1; subst h1
        exact .inr (hgs.lt k hk).1
theorem und32 : Try.prog.underlying 32 = some (.slice 3) := by kernel_rfl
theorem inf3 : (Try.prog.info? 3).map (fun i => (i.zero, i.size, i.bytes)) = some (some (.int .i64 0), 1, 8) := by kernel_rfl
def RBegS (x p : Nat) (g c : Int) (lv : Value) (us : List Value) (W : World) : Prop := VarAt W x 64 [.int .i64 g, .int .u64 c, lv] ∧ VarAt W p 55 us
set_option maxHeartbeats 8000000 in
set_option maxRecDepth 1000000 in
theorem c40 (h : RefAt w x g S L lv B) (hl : L.length ≤ 1000) (id : IdD) {gv : Value} {groups : List Int} (hG : RowOf encG 1 w gv groups) (hgx' : 0 < groups.length → gv.ownBlock ≠ some x) (hgl : groups.length ≤ 1000) :
    Calls Try.prog 40 #[.pointer (some ⟨x, 0, none⟩), .agg #[.int .i64 id.s, .int .i64 id.q], gv] w (REnd x g B w L lv (pairV (beginS g S id groups).1.1 (beginS g S id groups).1.2) (beginS g S id groups).2) := by
  refine gen (S := REnd x g B w L lv (pairV (beginS g S id groups).1.1 (beginS g S id groups).1.2) (beginS g S id groups).2) fun R hR => ?_
  have hb0 : Below w.heap.size w (w.alloc (.cells #[.int .i64 id.s, .int .i64 id.q] 31)) := (Below.refl _ _).alloc (Nat.le_refl _) _
  have stay : ∀ a e, beginS g S id groups = ((a, e), S) → ∀ W, Below w.heap.size w W → R (.returned (.tuple #[.int .u64 a, .int .i64 e])) W := fun a e hd W hb => hR _ _ (by rw [hd]; exact ⟨rfl, L, lv, h.below hb, RStep.of_below hb⟩)
  have STAY := Lib.hid stay
  have hI := VarAt.new w 31 [.int .i64 id.s, .int .i64 id.q]
  have h12 := c12 id.s id.q
  have hgx : goodId id.s id.q = goodX id := rfl
  rw [hgx] at h12
  have h53 := fun W (hb : Below w.heap.size w W) => c53 (h.below hb).box (hG.keep hb)
  have h42 := fun W (hb : Below w.heap.size w W) => c42 (h.below hb) hl id
  have H12 := Lib.hid h12
  have H53 := Lib.hid h53
  have H42 := Lib.hid h42
  have H := Lib.hid h
  have HG := Lib.hid hG
  have HB0 := Lib.hid hb0
  have HI := Lib.hid hI
  have HR := Lib.hid hR
  obtain ⟨ga, gc, rfl, -⟩ := _root_.id hG
  obtain ⟨la, lc, rfl⟩ := owns_slice' h.row
  clear h hG hb0 hI h12 hgx h53 h42 hR stay
  cases hgd : goodX id with
  | false =>
    have hd : beginS g S id groups = ((0, 2), S) := by unfold beginS; rw [hgd]; simp
    have END := Lib.hid (STAY.out _ _ hd)
    rw [hgd] at H12
    clear hd hgd
    go_enter Try.func40, Try.ntmps40
    go_wp2_with (first | (go_at_call 12; refine (H12.out _).mono ?_; rintro e w1 ⟨rfl, rfl⟩) | fail)
    go_tidy
    exact END.out _ (HB0.out.alloc HB0.out.size _)
  | true =>
    rw [hgd] at H12
    by_cases hr : Right g groups
    · have hrt : decide (Right g groups) = true := decide_eq_true hr
      rw [hrt] at H53
      have HRT := Lib.hid hr
      have HGD := Lib.hid hgd
      clear hr hrt hgd
      go_enter Try.func40, Try.ntmps40
      go_upto_region 4 with (first
        | (go_at_call 12; refine (H12.out _).mono ?_; rintro e w1 ⟨rfl, rfl⟩)
        | (go_at_call 53; refine (H53.out _ (HB0.out.alloc HB0.out.size _)).mono ?_; rintro e w5 ⟨rfl, hb5⟩; have HB5 := Lib.hid ((HB0.out.alloc HB0.out.size (.cells #[.int .i64 id.s, .int .i64 id.q] 31)).trans (hb5.mono (by simp; omega))); have HI5 := Lib.hid ((HI.out.alloc (.cells #[.int .i64 id.s, .int .i64 id.q] 31)).keep hb5 (by simp; omega)); have i50 := HI5.out.cell (j := 0) rfl; have i51 := HI5.out.cell (j := 1) rfl; have il5 := HI5.out.lt; clear hb5)
        | (go_at_call 42; refine (H42.out _ HB5.out).mono ?_; rintro e w2 ⟨n, rfl, hb2, hn⟩; have HN := Lib.hid hn; have hb3 := HB5.out.trans (hb2.mono HB5.out.size); have HI2 := Lib.hid (HI5.out.keep hb2 HI5.out.lt); have HB2 := Lib.hid hb3; clear hb2 hn hb3 i50 i51 il5; rcases HN.out with ⟨rfl, hno⟩ | ⟨k, y, rfl, hy, he⟩)
        | fail)
      · have hq := H.out.below HB2.out
        have hlost := hq.lost hno
        have f1 := hq.box.cell (j := 1) rfl
        have f2 := hq.box.cell (j := 2) rfl
        have k1 := hq.box.free 1
        have xl := hq.box.lt
        by_cases hc : 4611686018427387904 ≤ S.clock
        · have hd : beginS g S id groups = ((0, 7), S) := by
            unfold beginS
            rw [if_pos ⟨HGD.out, HRT.out⟩, hlost]
            simp only
            rw [if_pos (show S.clock ≥ mostS from hc)]
          have END := Lib.hid (STAY.out _ _ hd)
          clear hq hlost hno hd
          go_wp2
          go_tidy
          exact END.out _ HB2.out
        · have hcf : decide (4611686018427387904 ≤ S.clock) = false := decide_eq_false hc
          have hc0 := hq.ok.clock0
          have hd : beginS g S id groups = ((S.clock + 1, 0), ⟨S.clock + 1, S.L ++ [newOne g (S.clock + 1) id groups]⟩) := by
            unfold beginS
            rw [if_pos ⟨HGD.out, HRT.out⟩, hlost]
            simp only
            rw [if_neg (show ¬ S.clock ≥ mostS from hc)]
          have hend : ∀ W (L' : List RefO) (v' : Value), RefAt W x g ⟨S.clock + 1, S.L ++ [newOne g (S.clock + 1) id groups]⟩ L' v' B → RStep x w L (.slice la L.length lc) W L' v' → R (.returned (.tuple #[.int .u64 (S.clock + 1), .int .i64 0])) W := fun W L' v' h1 h2 => HR.out _ _ (by rw [hd]; exact ⟨rfl, L', v', h1, h2⟩)
          have END := Lib.hid hend
          have hw1 : IntKind.u64.wrap (S.clock + 1) = S.clock + 1 := IntWalk.u64_in _ (by omega)
          obtain ⟨W0, hW0⟩ : ∃ W0 : World, W0 = w2.setCell ⟨x, 1, none⟩ (.int .u64 (S.clock + 1)) := ⟨_, rfl⟩
          have hxI : x ≠ w.heap.size := by have := H.out.box.lt; omega
          have hf0 : w.grownBy W0 (some x) := by
            rw [hW0]
            refine ⟨HB2.out.os, HB2.out.tape, HB2.out.output, by simpa using HB2.out.size, fun k hk hne => ?_⟩
            rw [Below.heap_setCell _ _ _ k (fun e => hne (by rw [e]))]; exact HB2.out.block k hk
          have hbx0 : VarAt W0 x 64 [.int .i64 g, .int .u64 (S.clock + 1), .slice la L.length lc] := by rw [hW0]; exact hq.box.set 1 _
          have hid0 : VarAt W0 w.heap.size 31 [.int .i64 id.s, .int .i64 id.q] := by rw [hW0]; exact HI2.out.other (by simpa using Ne.symm hxI) _
          have HW0 := Lib.hid hW0
          have HF0 := Lib.hid hf0
          have HX0 := Lib.hid hbx0
          have HOF := Lib.hid (show ∀ o ∈ S.L, o.id ≠ id from fun o ho => by
            have := List.find?_eq_none.1 hlost o ho
            simpa using this)
          have HCL := Lib.hid (show S.clock < mostS by unfold mostS; omega)
          clear hq hlost hno hd hend hW0 hf0 hbx0 HN
          go_upto_region 9 with fail
          rw [← HW0.out]
          clear f1 f2 k1 xl hw1 hcf hc HW0
          have i0 := hid0.cell (j := 0) rfl
          have i1 := hid0.cell (j := 1) rfl
          have il := hid0.lt
          clear hid0
          have hpos : 0 < groups.length := List.length_pos_of_mem HRT.out.2.2
          obtain ⟨b, o, -, rfl, hbl, -, -⟩ := HG.out.gAt hpos
          have hbne : b ≠ x := fun e => hgx' hpos (by rw [e]; rfl)
          have hgcell : ∀ W, Below W0.heap.size W0 W → ∀ j u, (groups.map (Value.int .i64))[j]? = some u → W.cell? ((⟨b, o, none⟩ : Addr).add j) = some u := fun W hb j u hu => by
            rw [Go.WideShapes.add_plain]
            have hblW : b < W0.heap.size := Nat.lt_of_lt_of_le hbl HF0.out.size
            rw [hb.cell (p := ⟨b, o + j, none⟩) hblW]
            have e1 : W0.cell? ⟨b, o + j, none⟩ = w.cell? ⟨b, o + j, none⟩ := World.cell?_of_block (a := ⟨b, o + j, none⟩) (HF0.out.block b hbl fun e => hbne (Option.some.inj e))
            rw [e1]
            have hj : j < groups.length := by have := (List.getElem?_eq_some_iff.1 hu).1; simpa using this
            obtain ⟨b', o', y, hbb, -, hy, hcy⟩ := HG.out.gAt hj
            cases hbb
            rw [List.getElem?_map, hy] at hu
            cases hu; exact hcy
          have HGC := Lib.hid hgcell
          clear hgcell hbl hpos
          obtain ⟨W1, hW1⟩ : ∃ W1 : World, W1 = W0.alloc (.cells #[.int .i64 id.s, .int .i64 id.q, .slice none 0 0, .int .u64 0, .int .u64 0, .int .u64 0, .int .u64 0] 55) := ⟨_, rfl⟩
          have hb1 : Below W0.heap.size W0 W1 := by rw [hW1]; exact (Below.refl _ _).alloc (Nat.le_refl _) _
          have hp1 : VarAt W1 W0.heap.size 55 [.int .i64 id.s, .int .i64 id.q, .slice none 0 0, .int .u64 0, .int .u64 0, .int .u64 0, .int .u64 0] := by rw [hW1]; exact VarAt.new W0 55 _
          have hs1 : W1.heap.size = W0.heap.size + 1 := by rw [hW1]; simp
          have HW1 := Lib.hid hW1
          have HB1 := Lib.hid hb1
          have HP1 := Lib.hid hp1
          have HS1 := Lib.hid hs1
          clear hb1 hp1 hs1 hW1
          go_upto_region 10 with fail
          rw [← HW1.out]
          have p2 := HP1.out.cell (j := 2) rfl
          have pl := HP1.out.lt
          go_upto_region 11 with (first
            | (at_builtin
               (refine wpList_append_fresh W1 rfl (.tmp 52) (.tmp 53) 32 rfl W1.heap.size 3 (.int .i64 0) 1 8 und32 inf3 rfl (by decide) (.slice none 0 0) 0 [] (by rfl) (World.ownsRow_nil _ _ _ _) ⟨b, o, none⟩ groups.length gc (groups.map (Value.int .i64)) (by rfl) (by simp) ?hnew ?hone (by unfold maxLen; omega) (by omega) (Nat.le_refl _) ?_)
               case hnew => exact HGC.out W1 HB1.out
               case hone => (intro u hu; obtain ⟨z, -, rfl⟩ := List.mem_map.1 hu; rfl)
               intro v5 w5 hT5 hg5 ho5
               rw [Nat.zero_add, List.nil_append] at hT5
               obtain ⟨a5, c5, rfl⟩ := owns_slice' hT5
               have hg5' : W1.grownBy w5 none := hg5
               have hp5 := HP1.out.grown hg5' (fun e => by cases e)
               have pz := hp5.free 2
               have HT5 := Lib.hid hT5
               have HG5 := Lib.hid hg5'
               have HP5 := Lib.hid hp5
               clear hT5 hg5 hg5' ho5 p2 pl
               have pc := hp5.cell (j := 2) rfl
               have pl := hp5.lt
               clear hp5)
            | fail)
          generalize hW6 : World.setCell w5 _ _ = W6
          have hX6 : VarAt W6 x 64 [.int .i64 g, .int .u64 (S.clock + 1), .slice la L.length lc] := by
            rw [← hW6]
            exact ((HX0.out.keep HB1.out HX0.out.lt).grown HG5.out (fun e => by cases e)).other (by have := HX0.out.lt; simp; omega) _
          have hP6 : VarAt W6 W0.heap.size 55 [.int .i64 id.s, .int .i64 id.q, .slice a5 groups.length c5, .int .u64 0, .int .u64 0, .int .u64 0, .int .u64 0] := by
            rw [← hW6]; exact HP5.out.set 2 _
          have hs5 := HS1.out
          have hs0 := HF0.out.size
          have hs6 : W1.heap.size ≤ W6.heap.size := by rw [← hW6]; simpa using HG5.out.size
          have hf6 : w.grownBy W6 (some x) := by
            rw [← hW6]
            refine ⟨HG5.out.os.trans (HB1.out.os.trans HF0.out.os), HG5.out.tape.trans (HB1.out.tape.trans HF0.out.tape), HG5.out.output.trans (HB1.out.output.trans HF0.out.output), ?_, fun k hk hne => ?_⟩
            · have := HG5.out.size
              simp; omega
            · rw [Below.heap_setCell _ _ _ k (by show k ≠ W0.heap.size; omega), HG5.out.block k (by omega) (fun e => by cases e), HB1.out.block k (by omega)]
              exact HF0.out.block k hk hne
          have hgs6 : W6.ownsRow w.heap.size 3 1 (.slice a5 groups.length c5) groups.length (groups.map (Value.int .i64)) := by
            rw [← hW6]
            refine own_lower (ownsRow_keep HT5.out fun k hk => Below.heap_setCell _ _ _ k ?_) (by omega)
            have := (HT5.out.lt k hk).1
            show k ≠ W0.heap.size
            omega
          have HGR := Lib.hid (fun k (hk : (Value.slice a5 groups.length c5).ownBlock = some k) => show W0.heap.size < k by have := (HT5.out.lt k hk).1; omega)
          have HX6 := Lib.hid hX6
          have HP6 := Lib.hid hP6
          have HF6 := Lib.hid hf6
          have HGS6 := Lib.hid hgs6
          clear hW6 hs5 hs0 hX6 hP6 hf6 hgs6 pz pl pc
          have HG4 := Lib.hid (show g = 0 ∨ g = 1 ∨ g = 2 ∨ g = 3 by have := H.out.g0; omega)
          rcases HG4.out with rfl | rfl | rfl | rfl
          · refine wp_region_noPanic ?_
            refine till_start (RBegS x W0.heap.size 0 (S.clock + 1) (.slice la L.length lc) [.int .i64 id.s, .int .i64 id.q, .slice a5 groups.length c5, .int .u64 0, .int .u64 0, .int .u64 0, .int .u64 0]) 10 (by kernel_rfl) ?_
            have hS := (⟨HX6.out.keep (Below.refl _ _).drew HX6.out.lt, HP6.out.keep (Below.refl _ _).drew HP6.out.lt⟩ : RBegS x W0.heap.size 0 (S.clock + 1) (.slice la L.length lc) [.int .i64 id.s, .int .i64 id.q, .slice a5 groups.length c5, .int .u64 0, .int .u64 0, .int .u64 0, .int .u64 0] W6.drew)
            show AnyTill _ _ _ _ _ _ 11 (Array.replicate 11 false) _ _
            refine till_take 0 (v := ?_) rfl (by kernel_rfl) (fun _ _ _ h => h) (Or.inl ⟨by rfl, ?_⟩) hS ?_
            rotate_left
            focus (intro w' hSw; obtain ⟨hX, hP⟩ := hSw; have q0 := hX.cell (j := 0) rfl; have q1 := hX.cell (j := 1) rfl; have q2 := hX.cell (j := 2) rfl; have ql := hX.lt; have pl := hP.lt; have r0 := hP.cell (j := 0) rfl; have r1 := hP.cell (j := 1) rfl; have r2 := hP.cell (j := 2) rfl; have r3 := hP.cell (j := 3) rfl; have r4 := hP.cell (j := 4) rfl; have r5 := hP.cell (j := 5) rfl; have r6 := hP.cell (j := 6) rfl; clear hX hP; go_simp; try (with_reducible rfl))
            try simp only [Act.put, List.setIfInBounds_toArray, List.set_cons_zero, List.set_cons_succ]
            refine till_take 1 (v := ?_) rfl (by kernel_rfl) (fun _ _ _ h => h) (Or.inl ⟨by rfl, ?_⟩) hS ?_
            rotate_left
            focus (intro w' hSw; obtain ⟨hX, hP⟩ := hSw; have q0 := hX.cell (j := 0) rfl; have q1 := hX.cell (j := 1) rfl; have q2 := hX.cell (j := 2) rfl; have ql := hX.lt; have pl := hP.lt; have r0 := hP.cell (j := 0) rfl; have r1 := hP.cell (j := 1) rfl; have r2 := hP.cell (j := 2) rfl; have r3 := hP.cell (j := 3) rfl; have r4 := hP.cell (j := 4) rfl; have r5 := hP.cell (j := 5) rfl; have r6 := hP.cell (j := 6) rfl; clear hX hP; go_simp; try (with_reducible rfl))
            try simp only [Act.put, List.setIfInBounds_toArray, List.set_cons_zero, List.set_cons_succ]
            refine till_take 2 (v := ?_) rfl (by kernel_rfl) (fun _ _ _ h => h) (Or.inl ⟨by rfl, ?_⟩) hS ?_
            rotate_left
            focus (intro w' hSw; obtain ⟨hX, hP⟩ := hSw; have q0 := hX.cell (j := 0) rfl; have q1 := hX.cell (j := 1) rfl; have q2 := hX.cell (j := 2) rfl; have ql := hX.lt; have pl := hP.lt; have r0 := hP.cell (j := 0) rfl; have r1 := hP.cell (j := 1) rfl; have r2 := hP.cell (j := 2) rfl; have r3 := hP.cell (j := 3) rfl; have r4 := hP.cell (j := 4) rfl; have r5 := hP.cell (j := 5) rfl; have r6 := hP.cell (j := 6) rfl; clear hX hP; go_simp; try (with_reducible rfl))
            try simp only [Act.put, List.setIfInBounds_toArray, List.set_cons_zero, List.set_cons_succ]
            refine till_take 3 (v := ?_) rfl (by kernel_rfl) (fun _ _ _ h => h) (Or.inl ⟨by rfl, ?_⟩) hS ?_
            rotate_left
            focus (intro w' hSw; obtain ⟨hX, hP⟩ := hSw; have q0 := hX.cell (j := 0) rfl; have q1 := hX.cell (j := 1) rfl; have q2 := hX.cell (j := 2) rfl; have ql := hX.lt; have pl := hP.lt; have r0 := hP.cell (j := 0) rfl; have r1 := hP.cell (j := 1) rfl; have r2 := hP.cell (j := 2) rfl; have r3 := hP.cell (j := 3) rfl; have r4 := hP.cell (j := 4) rfl; have r5 := hP.cell (j := 5) rfl; have r6 := hP.cell (j := 6) rfl; clear hX hP; go_simp; try (with_reducible rfl))
            try simp only [Act.put, List.setIfInBounds_toArray, List.set_cons_zero, List.set_cons_succ]
            refine till_take 4 (v := ?_) rfl (by kernel_rfl) (fun _ _ _ h => h) (Or.inl ⟨by rfl, ?_⟩) hS ?_
            rotate_left
            focus (intro w' hSw; obtain ⟨hX, hP⟩ := hSw; have q0 := hX.cell (j := 0) rfl; have q1 := hX.cell (j := 1) rfl; have q2 := hX.cell (j := 2) rfl; have ql := hX.lt; have pl := hP.lt; have r0 := hP.cell (j := 0) rfl; have r1 := hP.cell (j := 1) rfl; have r2 := hP.cell (j := 2) rfl; have r3 := hP.cell (j := 3) rfl; have r4 := hP.cell (j := 4) rfl; have r5 := hP.cell (j := 5) rfl; have r6 := hP.cell (j := 6) rfl; clear hX hP; go_simp; try (with_reducible rfl))
            try simp only [Act.put, List.setIfInBounds_toArray, List.set_cons_zero, List.set_cons_succ]
            refine till_take 5 (v := ?_) rfl (by kernel_rfl) (fun _ _ _ h => h) (Or.inl ⟨by rfl, ?_⟩) hS ?_
            rotate_left
            focus (intro w' hSw; obtain ⟨hX, hP⟩ := hSw; have q0 := hX.cell (j := 0) rfl; have q1 := hX.cell (j := 1) rfl; have q2 := hX.cell (j := 2) rfl; have ql := hX.lt; have pl := hP.lt; have r0 := hP.cell (j := 0) rfl; have r1 := hP.cell (j := 1) rfl; have r2 := hP.cell (j := 2) rfl; have r3 := hP.cell (j := 3) rfl; have r4 := hP.cell (j := 4) rfl; have r5 := hP.cell (j := 5) rfl; have r6 := hP.cell (j := 6) rfl; clear hX hP; go_simp; try (with_reducible rfl))
            try simp only [Act.put, List.setIfInBounds_toArray, List.set_cons_zero, List.set_cons_succ]
            refine till_take 6 (v := ?_) rfl (by kernel_rfl) (fun _ _ _ h => h) (Or.inl ⟨by rfl, ?_⟩) hS ?_
            rotate_left
            focus (intro w' hSw; obtain ⟨hX, hP⟩ := hSw; have q0 := hX.cell (j := 0) rfl; have q1 := hX.cell (j := 1) rfl; have q2 := hX.cell (j := 2) rfl; have ql := hX.lt; have pl := hP.lt; have r0 := hP.cell (j := 0) rfl; have r1 := hP.cell (j := 1) rfl; have r2 := hP.cell (j := 2) rfl; have r3 := hP.cell (j := 3) rfl; have r4 := hP.cell (j := 4) rfl; have r5 := hP.cell (j := 5) rfl; have r6 := hP.cell (j := 6) rfl; clear hX hP; go_simp; try (with_reducible rfl))
            try simp only [Act.put, List.setIfInBounds_toArray, List.set_cons_zero, List.set_cons_succ]
            refine till_take 7 (v := ?_) rfl (by kernel_rfl) (fun _ _ _ h => h) (Or.inl ⟨by rfl, ?_⟩) hS ?_
            rotate_left
            focus (intro w' hSw; obtain ⟨hX, hP⟩ := hSw; have q0 := hX.cell (j := 0) rfl; have q1 := hX.cell (j := 1) rfl; have q2 := hX.cell (j := 2) rfl; have ql := hX.lt; have pl := hP.lt; have r0 := hP.cell (j := 0) rfl; have r1 := hP.cell (j := 1) rfl; have r2 := hP.cell (j := 2) rfl; have r3 := hP.cell (j := 3) rfl; have r4 := hP.cell (j := 4) rfl; have r5 := hP.cell (j := 5) rfl; have r6 := hP.cell (j := 6) rfl; clear hX hP; go_simp; try (with_reducible rfl))
            try simp only [Act.put, List.setIfInBounds_toArray, List.set_cons_zero, List.set_cons_succ]
            refine till_take 8 (v := ?_) rfl (by kernel_rfl) (fun _ _ _ h => h) (Or.inl ⟨by rfl, ?_⟩) hS ?_
            rotate_left
            focus (intro w' hSw; obtain ⟨hX, hP⟩ := hSw; have q0 := hX.cell (j := 0) rfl; have q1 := hX.cell (j := 1) rfl; have q2 := hX.cell (j := 2) rfl; have ql := hX.lt; have pl := hP.lt; have r0 := hP.cell (j := 0) rfl; have r1 := hP.cell (j := 1) rfl; have r2 := hP.cell (j := 2) rfl; have r3 := hP.cell (j := 3) rfl; have r4 := hP.cell (j := 4) rfl; have r5 := hP.cell (j := 5) rfl; have r6 := hP.cell (j := 6) rfl; clear hX hP; go_simp; try (with_reducible rfl))
            try simp only [Act.put, List.setIfInBounds_toArray, List.set_cons_zero, List.set_cons_succ]
            refine till_take 9 (v := ?_) rfl (by kernel_rfl) (fun _ _ _ h => h) (Or.inl ⟨by rfl, ?_⟩) hS ?_
            rotate_left
            focus (intro w' hSw; obtain ⟨hX, hP⟩ := hSw; have q0 := hX.cell (j := 0) rfl; have q1 := hX.cell (j := 1) rfl; have q2 := hX.cell (j := 2) rfl; have ql := hX.lt; have pl := hP.lt; have r0 := hP.cell (j := 0) rfl; have r1 := hP.cell (j := 1) rfl; have r2 := hP.cell (j := 2) rfl; have r3 := hP.cell (j := 3) rfl; have r4 := hP.cell (j := 4) rfl; have r5 := hP.cell (j := 5) rfl; have r6 := hP.cell (j := 6) rfl; clear hX hP; go_simp; try (with_reducible rfl))
            try simp only [Act.put, List.setIfInBounds_toArray, List.set_cons_zero, List.set_cons_succ]
            refine till_ready [10] (by kernel_rfl) (TillReady.cons 10 rfl (fun K hK => ?_) TillReady.nil)
            have pz := hS.2.free 3
            have pc := hS.2.cell (j := 3) rfl
            have pl := hS.2.lt
            go_simp
            refine (Hid.out hK) _ _ (fun h => absurd rfl h) ?_
            refine till_done (by kernel_rfl) ?_
            refine NoPanic.normal ?_
            clear pz pc pl hS
            generalize hW7 : (World.setCell W6 _ _).drew = W7
            have hX7 : VarAt W7 x 64 [.int .i64 0, .int .u64 (S.clock + 1), .slice la L.length lc] := by
              rw [← hW7]; exact (HX6.out.other (a := ⟨W0.heap.size, 3, none⟩) (by have := HX0.out.lt; simp; omega) _).keep (Below.refl _ _).drew (by have := HX6.out.lt; simpa using this)
            have hP7 : VarAt W7 W0.heap.size 55 [.int .i64 id.s, .int .i64 id.q, .slice a5 groups.length c5, .int .u64 (S.clock + 1), .int .u64 0, .int .u64 0, .int .u64 0] := by
              rw [← hW7]; exact (HP6.out.set 3 _).keep (Below.refl _ _).drew (by have := HP6.out.lt; simpa using this)
            have hs7 : W7.heap.size = W6.heap.size := by rw [← hW7]; show (World.setCell W6 _ _).heap.size = _; simp
            have hs0 := HF0.out.size
            have hf7 : w.grownBy W7 (some x) := by
              rw [← hW7]
              refine ⟨HF6.out.os, HF6.out.tape, HF6.out.output, ?_, fun k hk hne => ?_⟩
              · have := HF6.out.size
                show _ ≤ (World.setCell W6 _ _).heap.size
                simpa using this
              · show (World.setCell W6 _ _).heap[k]? = _
                rw [Below.heap_setCell _ _ _ k (by show k ≠ W0.heap.size; omega)]
                exact HF6.out.block k hk hne
            have hgs7 : W7.ownsRow w.heap.size 3 1 (.slice a5 groups.length c5) groups.length (groups.map (Value.int .i64)) := by
              rw [← hW7]
              refine ownsRow_keep HGS6.out fun k hk => ?_
              show (World.setCell W6 _ _).heap[k]? = _
              refine Below.heap_setCell _ _ _ k ?_
              have := HGR.out k hk
              show k ≠ W0.heap.size
              omega
            have HX7 := Lib.hid hX7
            have HP7 := Lib.hid hP7
            have HF7 := Lib.hid hf7
            have HGS7 := Lib.hid hgs7
            clear hW7 hX7 hP7 hf7 hgs7
            go_upto_region 12 with fail
            refine wp_region_noPanic ?_
            refine till_start (RBegS x W0.heap.size 0 (S.clock + 1) (.slice la L.length lc) [.int .i64 id.s, .int .i64 id.q, .slice a5 groups.length c5, .int .u64 (S.clock + 1), .int .u64 0, .int .u64 0, .int .u64 0]) 10 (by kernel_rfl) ?_
            have hS := (⟨HX7.out.keep (Below.refl _ _).drew HX7.out.lt, HP7.out.keep (Below.refl _ _).drew HP7.out.lt⟩ : RBegS x W0.heap.size 0 (S.clock + 1) (.slice la L.length lc) [.int .i64 id.s, .int .i64 id.q, .slice a5 groups.length c5, .int .u64 (S.clock + 1), .int .u64 0, .int .u64 0, .int .u64 0] W7.drew)
            show AnyTill _ _ _ _ _ _ 11 (Array.replicate 11 false) _ _
            refine till_take 0 (v := ?_) rfl (by kernel_rfl) (fun _ _ _ h => h) (Or.inl ⟨by rfl, ?_⟩) hS ?_
            rotate_left
            focus (intro w' hSw; obtain ⟨hX, hP⟩ := hSw; have q0 := hX.cell (j := 0) rfl; have q1 := hX.cell (j := 1) rfl; have q2 := hX.cell (j := 2) rfl; have ql := hX.lt; have pl := hP.lt; have r0 := hP.cell (j := 0) rfl; have r1 := hP.cell (j := 1) rfl; have r2 := hP.cell (j := 2) rfl; have r3 := hP.cell (j := 3) rfl; have r4 := hP.cell (j := 4) rfl; have r5 := hP.cell (j := 5) rfl; have r6 := hP.cell (j := 6) rfl; clear hX hP; go_simp; try (with_reducible rfl))
            try simp only [Act.put, List.setIfInBounds_toArray, List.set_cons_zero, List.set_cons_succ]
            refine till_take 1 (v := ?_) rfl (by kernel_rfl) (fun _ _ _ h => h) (Or.inl ⟨by rfl, ?_⟩) hS ?_
            rotate_left
            focus (intro w' hSw; obtain ⟨hX, hP⟩ := hSw; have q0 := hX.cell (j := 0) rfl; have q1 := hX.cell (j := 1) rfl; have q2 := hX.cell (j := 2) rfl; have ql := hX.lt; have pl := hP.lt; have r0 := hP.cell (j := 0) rfl; have r1 := hP.cell (j := 1) rfl; have r2 := hP.cell (j := 2) rfl; have r3 := hP.cell (j := 3) rfl; have r4 := hP.cell (j := 4) rfl; have r5 := hP.cell (j := 5) rfl; have r6 := hP.cell (j := 6) rfl; clear hX hP; go_simp; try (with_reducible rfl))
            try simp only [Act.put, List.setIfInBounds_toArray, List.set_cons_zero, List.set_cons_succ]
            refine till_take 2 (v := ?_) rfl (by kernel_rfl) (fun _ _ _ h => h) (Or.inl ⟨by rfl, ?_⟩) hS ?_
            rotate_left
            focus (intro w' hSw; obtain ⟨hX, hP⟩ := hSw; have q0 := hX.cell (j := 0) rfl; have q1 := hX.cell (j := 1) rfl; have q2 := hX.cell (j := 2) rfl; have ql := hX.lt; have pl := hP.lt; have r0 := hP.cell (j := 0) rfl; have r1 := hP.cell (j := 1) rfl; have r2 := hP.cell (j := 2) rfl; have r3 := hP.cell (j := 3) rfl; have r4 := hP.cell (j := 4) rfl; have r5 := hP.cell (j := 5) rfl; have r6 := hP.cell (j := 6) rfl; clear hX hP; go_simp; try (with_reducible rfl))
            try simp only [Act.put, List.setIfInBounds_toArray, List.set_cons_zero, List.set_cons_succ]
            refine till_take 3 (v := ?_) rfl (by kernel_rfl) (fun _ _ _ h => h) (Or.inl ⟨by rfl, ?_⟩) hS ?_
            rotate_left
            focus (intro w' hSw; obtain ⟨hX, hP⟩ := hSw; have q0 := hX.cell (j := 0) rfl; have q1 := hX.cell (j := 1) rfl; have q2 := hX.cell (j := 2) rfl; have ql := hX.lt; have pl := hP.lt; have r0 := hP.cell (j := 0) rfl; have r1 := hP.cell (j := 1) rfl; have r2 := hP.cell (j := 2) rfl; have r3 := hP.cell (j := 3) rfl; have r4 := hP.cell (j := 4) rfl; have r5 := hP.cell (j := 5) rfl; have r6 := hP.cell (j := 6) rfl; clear hX hP; go_simp; try (with_reducible rfl))
            try simp only [Act.put, List.setIfInBounds_toArray, List.set_cons_zero, List.set_cons_succ]
            refine till_take 4 (v := ?_) rfl (by kernel_rfl) (fun _ _ _ h => h) (Or.inl ⟨by rfl, ?_⟩) hS ?_
            rotate_left
            focus (intro w' hSw; obtain ⟨hX, hP⟩ := hSw; have q0 := hX.cell (j := 0) rfl; have q1 := hX.cell (j := 1) rfl; have q2 := hX.cell (j := 2) rfl; have ql := hX.lt; have pl := hP.lt; have r0 := hP.cell (j := 0) rfl; have r1 := hP.cell (j := 1) rfl; have r2 := hP.cell (j := 2) rfl; have r3 := hP.cell (j := 3) rfl; have r4 := hP.cell (j := 4) rfl; have r5 := hP.cell (j := 5) rfl; have r6 := hP.cell (j := 6) rfl; clear hX hP; go_simp; try (with_reducible rfl))
            try simp only [Act.put, List.setIfInBounds_toArray, List.set_cons_zero, List.set_cons_succ]
            refine till_take 5 (v := ?_) rfl (by kernel_rfl) (fun _ _ _ h => h) (Or.inl ⟨by rfl, ?_⟩) hS ?_
            rotate_left
            focus (intro w' hSw; obtain ⟨hX, hP⟩ := hSw; have q0 := hX.cell (j := 0) rfl; have q1 := hX.cell (j := 1) rfl; have q2 := hX.cell (j := 2) rfl; have ql := hX.lt; have pl := hP.lt; have r0 := hP.cell (j := 0) rfl; have r1 := hP.cell (j := 1) rfl; have r2 := hP.cell (j := 2) rfl; have r3 := hP.cell (j := 3) rfl; have r4 := hP.cell (j := 4) rfl; have r5 := hP.cell (j := 5) rfl; have r6 := hP.cell (j := 6) rfl; clear hX hP; go_simp; try (with_reducible rfl))
            try simp only [Act.put, List.setIfInBounds_toArray, List.set_cons_zero, List.set_cons_succ]
            refine till_ready [6] (by kernel_rfl) (TillReady.cons 6 rfl (fun K hK => ?_) TillReady.nil)
            go_simp
            have hb8 : Below W7.heap.size W7 (W7.drew.alloc (.cells #[.int .i64 id.s, .int .i64 id.q, .slice a5 groups.length c5, .int .u64 (S.clock + 1), .int .u64 0, .int .u64 0, .int .u64 0] 55)) := (Below.refl _ _).drew.alloc (Nat.le_refl _) _
            have hS : RBegS x W0.heap.size 0 (S.clock + 1) (.slice la L.length lc) [.int .i64 id.s, .int .i64 id.q, .slice a5 groups.length c5, .int .u64 (S.clock + 1), .int .u64 0, .int .u64 0, .int .u64 0] (W7.drew.alloc (.cells #[.int .i64 id.s, .int .i64 id.q, .slice a5 groups.length c5, .int .u64 (S.clock + 1), .int .u64 0, .int .u64 0, .int .u64 0] 55)) := ⟨HX7.out.keep hb8 HX7.out.lt, HP7.out.keep hb8 HP7.out.lt⟩
            refine (Hid.out hK) _ _ (fun _ => hS) ?_
            try simp only [Act.put, List.setIfInBounds_toArray, List.set_cons_zero, List.set_cons_succ]
            refine till_ready [7] (by kernel_rfl) (TillReady.cons 7 rfl (fun K hK => ?_) TillReady.nil)
            have hN := VarAt.new W7.drew 55 [.int .i64 id.s, .int .i64 id.q, .slice a5 groups.length c5, .int .u64 (S.clock + 1), .int .u64 0, .int .u64 0, .int .u64 0]
            refine step_append_fresh (W7.drew.alloc (.cells #[.int .i64 id.s, .int .i64 id.q, .slice a5 groups.length c5, .int .u64 (S.clock + 1), .int .u64 0, .int .u64 0, .int .u64 0] 55)) rfl (.tmp 70) (.tmp 72) 47 rfl B 55 (.agg #[.int .i64 0, .int .i64 0, .slice none 0 0, .int .u64 0, .int .u64 0, .int .u64 0, .int .u64 0]) 7 72 und47 inf55 rfl (by decide) (.slice la L.length lc) L.length (L.flatMap encR) (by rfl) ?hrow ⟨W7.heap.size, 0, none⟩ 1 1 ([.int .i64 id.s, .int .i64 id.q, .slice a5 groups.length c5, .int .u64 (S.clock + 1), .int .u64 0, .int .u64 0, .int .u64 0]) (by go_simp) rfl ?hnew ?hone (by unfold maxLen; omega) (by omega) ?hB ?_
            case hrow => exact own_belowW (ownsRow_keep H.out.row fun k hk => HF7.out.block k (H.out.row.lt k hk).2 fun e => H.out.lx (hk.trans e)) hb8
            case hnew => intro j u hu; rw [Go.WideShapes.add_plain, Nat.zero_add]; exact hN.cell hu
            case hone => intro u hu; simp only [List.mem_cons, List.not_mem_nil, or_false] at hu; rcases hu with rfl | rfl | rfl | rfl | rfl | rfl | rfl <;> rfl
            case hB => have := H.out.lowX; have := HX7.out.lt; have := hb8.size; omega
            intro v9 w9 hT9 hg9 hvv9
            have hg79 : W7.grownBy w9 (Value.slice la L.length lc).ownBlock := ⟨hg9.os.trans hb8.os, hg9.tape.trans hb8.tape, hg9.output.trans hb8.output, Nat.le_trans hb8.size hg9.size, fun k hk hne => by rw [hg9.block k (Nat.lt_of_lt_of_le hk hb8.size) hne, hb8.block k hk]⟩
            have hgot := H.out.pushed (id := id) (groups := groups) (gv := .slice a5 groups.length c5) HRT.out HOF.out HCL.out HF7.out HX7.out HGS7.out (v2 := v9) (W2 := w9) (by simpa [encR, newOne] using hT9) hg79 (hvv9.imp (fun h => h) fun ⟨k, h1, h2⟩ => ⟨k, h1, Nat.le_trans hb8.size h2⟩)
            obtain ⟨a9, c9, rfl⟩ := owns_slice' hT9
            have hX9 := HX7.out.grown hg79 (fun e => H.out.lx e.symm)
            have hP9 := HP7.out.grown hg79 (fun e => by have := (H.out.row.lt _ e.symm).2; have := HF0.out.size; omega)
            have hS : RBegS x W0.heap.size 0 (S.clock + 1) (.slice la L.length lc) [.int .i64 id.s, .int .i64 id.q, .slice a5 groups.length c5, .int .u64 (S.clock + 1), .int .u64 0, .int .u64 0, .int .u64 0] w9 := ⟨hX9, hP9⟩
            refine (Hid.out hK) _ _ (fun _ => hS) ?_
            try simp only [Act.put, List.setIfInBounds_toArray, List.set_cons_zero, List.set_cons_succ]
            refine till_take 8 (v := ?_) rfl (by kernel_rfl) (fun _ _ _ h => h) (Or.inl ⟨by rfl, ?_⟩) hS ?_
            rotate_left
            focus (intro w' hSw; obtain ⟨hX, hP⟩ := hSw; have q0 := hX.cell (j := 0) rfl; have q1 := hX.cell (j := 1) rfl; have q2 := hX.cell (j := 2) rfl; have ql := hX.lt; have pl := hP.lt; have r0 := hP.cell (j := 0) rfl; have r1 := hP.cell (j := 1) rfl; have r2 := hP.cell (j := 2) rfl; have r3 := hP.cell (j := 3) rfl; have r4 := hP.cell (j := 4) rfl; have r5 := hP.cell (j := 5) rfl; have r6 := hP.cell (j := 6) rfl; clear hX hP; go_simp; try (with_reducible rfl))
            try simp only [Act.put, List.setIfInBounds_toArray, List.set_cons_zero, List.set_cons_succ]
            refine till_take 9 (v := ?_) rfl (by kernel_rfl) (fun _ _ _ h => h) (Or.inl ⟨by rfl, ?_⟩) hS ?_
            rotate_left
            focus (intro w' hSw; obtain ⟨hX, hP⟩ := hSw; have q0 := hX.cell (j := 0) rfl; have q1 := hX.cell (j := 1) rfl; have q2 := hX.cell (j := 2) rfl; have ql := hX.lt; have pl := hP.lt; have r0 := hP.cell (j := 0) rfl; have r1 := hP.cell (j := 1) rfl; have r2 := hP.cell (j := 2) rfl; have r3 := hP.cell (j := 3) rfl; have r4 := hP.cell (j := 4) rfl; have r5 := hP.cell (j := 5) rfl; have r6 := hP.cell (j := 6) rfl; clear hX hP; go_simp; try (with_reducible rfl))
            try simp only [Act.put, List.setIfInBounds_toArray, List.set_cons_zero, List.set_cons_succ]
            refine till_ready [10] (by kernel_rfl) (TillReady.cons 10 rfl (fun K hK => ?_) TillReady.nil)
            have pz := hX9.free 2
            have pc := hX9.cell (j := 2) rfl
            have pl := hX9.lt
            go_simp
            refine (Hid.out hK) _ _ (fun h => absurd rfl h) ?_
            refine till_done (by kernel_rfl) ?_
            refine NoPanic.normal ?_
            have HGOT := Lib.hid hgot
            have f1 := hgot.1.box.cell (j := 1) rfl
            have xl := hgot.1.box.lt
            clear hgot pz pc pl hS hX9 hP9 hN hT9 hg9 hvv9 hg79 hb8
            go_wp2
            go_tidy
            exact END.out _ _ _ HGOT.out.1 HGOT.out.2
          · refine wp_region_noPanic ?_
            refine till_start (RBegS x W0.heap.size 1 (S.clock + 1) (.slice la L.length lc) [.int .i64 id.s, .int .i64 id.q, .slice a5 groups.length c5, .int .u64 0, .int .u64 0, .int .u64 0, .int .u64 0]) 10 (by kernel_rfl) ?_
            have hS := (⟨HX6.out.keep (Below.refl _ _).drew HX6.out.lt, HP6.out.keep (Below.refl _ _).drew HP6.out.lt⟩ : RBegS x W0.heap.size 1 (S.clock + 1) (.slice la L.length lc) [.int .i64 id.s, .int .i64 id.q, .slice a5 groups.length c5, .int .u64 0, .int .u64 0, .int .u64 0, .int .u64 0] W6.drew)
            show AnyTill _ _ _ _ _ _ 11 (Array.replicate 11 false) _ _
            refine till_take 0 (v := ?_) rfl (by kernel_rfl) (fun _ _ _ h => h) (Or.inl ⟨by rfl, ?_⟩) hS ?_
            rotate_left
            focus (intro w' hSw; obtain ⟨hX, hP⟩ := hSw; have q0 := hX.cell (j := 0) rfl; have q1 := hX.cell (j := 1) rfl; have q2 := hX.cell (j := 2) rfl; have ql := hX.lt; have pl := hP.lt; have r0 := hP.cell (j := 0) rfl; have r1 := hP.cell (j := 1) rfl; have r2 := hP.cell (j := 2) rfl; have r3 := hP.cell (j := 3) rfl; have r4 := hP.cell (j := 4) rfl; have r5 := hP.cell (j := 5) rfl; have r6 := hP.cell (j := 6) rfl; clear hX hP; go_simp; try (with_reducible rfl))
            try simp only [Act.put, List.setIfInBounds_toArray, List.set_cons_zero, List.set_cons_succ]
            refine till_take 1 (v := ?_) rfl (by kernel_rfl) (fun _ _ _ h => h) (Or.inl ⟨by rfl, ?_⟩) hS ?_
            rotate_left
            focus (intro w' hSw; obtain ⟨hX, hP⟩ := hSw; have q0 := hX.cell (j := 0) rfl; have q1 := hX.cell (j := 1) rfl; have q2 := hX.cell (j := 2) rfl; have ql := hX.lt; have pl := hP.lt; have r0 := hP.cell (j := 0) rfl; have r1 := hP.cell (j := 1) rfl; have r2 := hP.cell (j := 2) rfl; have r3 := hP.cell (j := 3) rfl; have r4 := hP.cell (j := 4) rfl; have r5 := hP.cell (j := 5) rfl; have r6 := hP.cell (j := 6) rfl; clear hX hP; go_simp; try (with_reducible rfl))
            try simp only [Act.put, List.setIfInBounds_toArray, List.set_cons_zero, List.set_cons_succ]
            refine till_take 2 (v := ?_) rfl (by kernel_rfl) (fun _ _ _ h => h) (Or.inl ⟨by rfl, ?_⟩) hS ?_
            rotate_left
            focus (intro w' hSw; obtain ⟨hX, hP⟩ := hSw; have q0 := hX.cell (j := 0) rfl; have q1 := hX.cell (j := 1) rfl; have q2 := hX.cell (j := 2) rfl; have ql := hX.lt; have pl := hP.lt; have r0 := hP.cell (j := 0) rfl; have r1 := hP.cell (j := 1) rfl; have r2 := hP.cell (j := 2) rfl; have r3 := hP.cell (j := 3) rfl; have r4 := hP.cell (j := 4) rfl; have r5 := hP.cell (j := 5) rfl; have r6 := hP.cell (j := 6) rfl; clear hX hP; go_simp; try (with_reducible rfl))
            try simp only [Act.put, List.setIfInBounds_toArray, List.set_cons_zero, List.set_cons_succ]
            refine till_take 3 (v := ?_) rfl (by kernel_rfl) (fun _ _ _ h => h) (Or.inl ⟨by rfl, ?_⟩) hS ?_
            rotate_left
            focus (intro w' hSw; obtain ⟨hX, hP⟩ := hSw; have q0 := hX.cell (j := 0) rfl; have q1 := hX.cell (j := 1) rfl; have q2 := hX.cell (j := 2) rfl; have ql := hX.lt; have pl := hP.lt; have r0 := hP.cell (j := 0) rfl; have r1 := hP.cell (j := 1) rfl; have r2 := hP.cell (j := 2) rfl; have r3 := hP.cell (j := 3) rfl; have r4 := hP.cell (j := 4) rfl; have r5 := hP.cell (j := 5) rfl; have r6 := hP.cell (j := 6) rfl; clear hX hP; go_simp; try (with_reducible rfl))
            try simp only [Act.put, List.setIfInBounds_toArray, List.set_cons_zero, List.set_cons_succ]
            refine till_take 4 (v := ?_) rfl (by kernel_rfl) (fun _ _ _ h => h) (Or.inl ⟨by rfl, ?_⟩) hS ?_
            rotate_left
            focus (intro w' hSw; obtain ⟨hX, hP⟩ := hSw; have q0 := hX.cell (j := 0) rfl; have q1 := hX.cell (j := 1) rfl; have q2 := hX.cell (j := 2) rfl; have ql := hX.lt; have pl := hP.lt; have r0 := hP.cell (j := 0) rfl; have r1 := hP.cell (j := 1) rfl; have r2 := hP.cell (j := 2) rfl; have r3 := hP.cell (j := 3) rfl; have r4 := hP.cell (j := 4) rfl; have r5 := hP.cell (j := 5) rfl; have r6 := hP.cell (j := 6) rfl; clear hX hP; go_simp; try (with_reducible rfl))
            try simp only [Act.put, List.setIfInBounds_toArray, List.set_cons_zero, List.set_cons_succ]
            refine till_take 5 (v := ?_) rfl (by kernel_rfl) (fun _ _ _ h => h) (Or.inl ⟨by rfl, ?_⟩) hS ?_
            rotate_left
            focus (intro w' hSw; obtain ⟨hX, hP⟩ := hSw; have q0 := hX.cell (j := 0) rfl; have q1 := hX.cell (j := 1) rfl; have q2 := hX.cell (j := 2) rfl; have ql := hX.lt; have pl := hP.lt; have r0 := hP.cell (j := 0) rfl; have r1 := hP.cell (j := 1) rfl; have r2 := hP.cell (j := 2) rfl; have r3 := hP.cell (j := 3) rfl; have r4 := hP.cell (j := 4) rfl; have r5 := hP.cell (j := 5) rfl; have r6 := hP.cell (j := 6) rfl; clear hX hP; go_simp; try (with_reducible rfl))
            try simp only [Act.put, List.setIfInBounds_toArray, List.set_cons_zero, List.set_cons_succ]
            refine till_take 6 (v := ?_) rfl (by kernel_rfl) (fun _ _ _ h => h) (Or.inl ⟨by rfl, ?_⟩) hS ?_
            rotate_left
            focus (intro w' hSw; obtain ⟨hX, hP⟩ := hSw; have q0 := hX.cell (j := 0) rfl; have q1 := hX.cell (j := 1) rfl; have q2 := hX.cell (j := 2) rfl; have ql := hX.lt; have pl := hP.lt; have r0 := hP.cell (j := 0) rfl; have r1 := hP.cell (j := 1) rfl; have r2 := hP.cell (j := 2) rfl; have r3 := hP.cell (j := 3) rfl; have r4 := hP.cell (j := 4) rfl; have r5 := hP.cell (j := 5) rfl; have r6 := hP.cell (j := 6) rfl; clear hX hP; go_simp; try (with_reducible rfl))
            try simp only [Act.put, List.setIfInBounds_toArray, List.set_cons_zero, List.set_cons_succ]
            refine till_take 7 (v := ?_) rfl (by kernel_rfl) (fun _ _ _ h => h) (Or.inl ⟨by rfl, ?_⟩) hS ?_
            rotate_left
            focus (intro w' hSw; obtain ⟨hX, hP⟩ := hSw; have q0 := hX.cell (j := 0) rfl; have q1 := hX.cell (j := 1) rfl; have q2 := hX.cell (j := 2) rfl; have ql := hX.lt; have pl := hP.lt; have r0 := hP.cell (j := 0) rfl; have r1 := hP.cell (j := 1) rfl; have r2 := hP.cell (j := 2) rfl; have r3 := hP.cell (j := 3) rfl; have r4 := hP.cell (j := 4) rfl; have r5 := hP.cell (j := 5) rfl; have r6 := hP.cell (j := 6) rfl; clear hX hP; go_simp; try (with_reducible rfl))
            try simp only [Act.put, List.setIfInBounds_toArray, List.set_cons_zero, List.set_cons_succ]
            refine till_take 8 (v := ?_) rfl (by kernel_rfl) (fun _ _ _ h => h) (Or.inl ⟨by rfl, ?_⟩) hS ?_
            rotate_left
            focus (intro w' hSw; obtain ⟨hX, hP⟩ := hSw; have q0 := hX.cell (j := 0) rfl; have q1 := hX.cell (j := 1) rfl; have q2 := hX.cell (j := 2) rfl; have ql := hX.lt; have pl := hP.lt; have r0 := hP.cell (j := 0) rfl; have r1 := hP.cell (j := 1) rfl; have r2 := hP.cell (j := 2) rfl; have r3 := hP.cell (j := 3) rfl; have r4 := hP.cell (j := 4) rfl; have r5 := hP.cell (j := 5) rfl; have r6 := hP.cell (j := 6) rfl; clear hX hP; go_simp; try (with_reducible rfl))
            try simp only [Act.put, List.setIfInBounds_toArray, List.set_cons_zero, List.set_cons_succ]
            refine till_take 9 (v := ?_) rfl (by kernel_rfl) (fun _ _ _ h => h) (Or.inl ⟨by rfl, ?_⟩) hS ?_
            rotate_left
            focus (intro w' hSw; obtain ⟨hX, hP⟩ := hSw; have q0 := hX.cell (j := 0) rfl; have q1 := hX.cell (j := 1) rfl; have q2 := hX.cell (j := 2) rfl; have ql := hX.lt; have pl := hP.lt; have r0 := hP.cell (j := 0) rfl; have r1 := hP.cell (j := 1) rfl; have r2 := hP.cell (j := 2) rfl; have r3 := hP.cell (j := 3) rfl; have r4 := hP.cell (j := 4) rfl; have r5 := hP.cell (j := 5) rfl; have r6 := hP.cell (j := 6) rfl; clear hX hP; go_simp; try (with_reducible rfl))
            try simp only [Act.put, List.setIfInBounds_toArray, List.set_cons_zero, List.set_cons_succ]
            refine till_ready [10] (by kernel_rfl) (TillReady.cons 10 rfl (fun K hK => ?_) TillReady.nil)
            have pz := hS.2.free 4
            have pc := hS.2.cell (j := 4) rfl
            have pl := hS.2.lt
            go_simp
            refine (Hid.out hK) _ _ (fun h => absurd rfl h) ?_
            refine till_done (by kernel_rfl) ?_
            refine NoPanic.normal ?_
            clear pz pc pl hS
            generalize hW7 : (World.setCell W6 _ _).drew = W7
            have hX7 : VarAt W7 x 64 [.int .i64 1, .int .u64 (S.clock + 1), .slice la L.length lc] := by
              rw [← hW7]; exact (HX6.out.other (a := ⟨W0.heap.size, 4, none⟩) (by have := HX0.out.lt; simp; omega) _).keep (Below.refl _ _).drew (by have := HX6.out.lt; simpa using this)
            have hP7 : VarAt W7 W0.heap.size 55 [.int .i64 id.s, .int .i64 id.q, .slice a5 groups.length c5, .int .u64 0, .int .u64 (S.clock + 1), .int .u64 0, .int .u64 0] := by
              rw [← hW7]; exact (HP6.out.set 4 _).keep (Below.refl _ _).drew (by have := HP6.out.lt; simpa using this)
            have hs7 : W7.heap.size = W6.heap.size := by rw [← hW7]; show (World.setCell W6 _ _).heap.size = _; simp
            have hs0 := HF0.out.size
            have hf7 : w.grownBy W7 (some x) := by
              rw [← hW7]
              refine ⟨HF6.out.os, HF6.out.tape, HF6.out.output, ?_, fun k hk hne => ?_⟩
              · have := HF6.out.size
                show _ ≤ (World.setCell W6 _ _).heap.size
                simpa using this
              · show (World.setCell W6 _ _).heap[k]? = _
                rw [Below.heap_setCell _ _ _ k (by show k ≠ W0.heap.size; omega)]
                exact HF6.out.block k hk hne
            have hgs7 : W7.ownsRow w.heap.size 3 1 (.slice a5 groups.length c5) groups.length (groups.map (Value.int .i64)) := by
              rw [← hW7]
              refine ownsRow_keep HGS6.out fun k hk => ?_
              show (World.setCell W6 _ _).heap[k]? = _
              refine Below.heap_setCell _ _ _ k ?_
              have := HGR.out k hk
              show k ≠ W0.heap.size
              omega
            have HX7 := Lib.hid hX7
            have HP7 := Lib.hid hP7
            have HF7 := Lib.hid hf7
            have HGS7 := Lib.hid hgs7
            clear hW7 hX7 hP7 hf7 hgs7
            go_upto_region 12 with fail
            refine wp_region_noPanic ?_
            refine till_start (RBegS x W0.heap.size 1 (S.clock + 1) (.slice la L.length lc) [.int .i64 id.s, .int .i64 id.q, .slice a5 groups.length c5, .int .u64 0, .int .u64 (S.clock + 1), .int .u64 0, .int .u64 0]) 10 (by kernel_rfl) ?_
            have hS := (⟨HX7.out.keep (Below.refl _ _).drew HX7.out.lt, HP7.out.keep (Below.refl _ _).drew HP7.out.lt⟩ : RBegS x W0.heap.size 1 (S.clock + 1) (.slice la L.length lc) [.int .i64 id.s, .int .i64 id.q, .slice a5 groups.length c5, .int .u64 0, .int .u64 (S.clock + 1), .int .u64 0, .int .u64 0] W7.drew)
            show AnyTill _ _ _ _ _ _ 11 (Array.replicate 11 false) _ _
            refine till_take 0 (v := ?_) rfl (by kernel_rfl) (fun _ _ _ h => h) (Or.inl ⟨by rfl, ?_⟩) hS ?_
            rotate_left
            focus (intro w' hSw; obtain ⟨hX, hP⟩ := hSw; have q0 := hX.cell (j := 0) rfl; have q1 := hX.cell (j := 1) rfl; have q2 := hX.cell (j := 2) rfl; have ql := hX.lt; have pl := hP.lt; have r0 := hP.cell (j := 0) rfl; have r1 := hP.cell (j := 1) rfl; have r2 := hP.cell (j := 2) rfl; have r3 := hP.cell (j := 3) rfl; have r4 := hP.cell (j := 4) rfl; have r5 := hP.cell (j := 5) rfl; have r6 := hP.cell (j := 6) rfl; clear hX hP; go_simp; try (with_reducible rfl))
            try simp only [Act.put, List.setIfInBounds_toArray, List.set_cons_zero, List.set_cons_succ]
            refine till_take 1 (v := ?_) rfl (by kernel_rfl) (fun _ _ _ h => h) (Or.inl ⟨by rfl, ?_⟩) hS ?_
            rotate_left
            focus (intro w' hSw; obtain ⟨hX, hP⟩ := hSw; have q0 := hX.cell (j := 0) rfl; have q1 := hX.cell (j := 1) rfl; have q2 := hX.cell (j := 2) rfl; have ql := hX.lt; have pl := hP.lt; have r0 := hP.cell (j := 0) rfl; have r1 := hP.cell (j := 1) rfl; have r2 := hP.cell (j := 2) rfl; have r3 := hP.cell (j := 3) rfl; have r4 := hP.cell (j := 4) rfl; have r5 := hP.cell (j := 5) rfl; have r6 := hP.cell (j := 6) rfl; clear hX hP; go_simp; try (with_reducible rfl))
            try simp only [Act.put, List.setIfInBounds_toArray, List.set_cons_zero, List.set_cons_succ]
            refine till_take 2 (v := ?_) rfl (by kernel_rfl) (fun _ _ _ h => h) (Or.inl ⟨by rfl, ?_⟩) hS ?_
            rotate_left
            focus (intro w' hSw; obtain ⟨hX, hP⟩ := hSw; have q0 := hX.cell (j := 0) rfl; have q1 := hX.cell (j := 1) rfl; have q2 := hX.cell (j := 2) rfl; have ql := hX.lt; have pl := hP.lt; have r0 := hP.cell (j := 0) rfl; have r1 := hP.cell (j := 1) rfl; have r2 := hP.cell (j := 2) rfl; have r3 := hP.cell (j := 3) rfl; have r4 := hP.cell (j := 4) rfl; have r5 := hP.cell (j := 5) rfl; have r6 := hP.cell (j := 6) rfl; clear hX hP; go_simp; try (with_reducible rfl))
            try simp only [Act.put, List.setIfInBounds_toArray, List.set_cons_zero, List.set_cons_succ]
            refine till_take 3 (v := ?_) rfl (by kernel_rfl) (fun _ _ _ h => h) (Or.inl ⟨by rfl, ?_⟩) hS ?_
            rotate_left
            focus (intro w' hSw; obtain ⟨hX, hP⟩ := hSw; have q0 := hX.cell (j := 0) rfl; have q1 := hX.cell (j := 1) rfl; have q2 := hX.cell (j := 2) rfl; have ql := hX.lt; have pl := hP.lt; have r0 := hP.cell (j := 0) rfl; have r1 := hP.cell (j := 1) rfl; have r2 := hP.cell (j := 2) rfl; have r3 := hP.cell (j := 3) rfl; have r4 := hP.cell (j := 4) rfl; have r5 := hP.cell (j := 5) rfl; have r6 := hP.cell (j := 6) rfl; clear hX hP; go_simp; try (with_reducible rfl))
            try simp only [Act.put, List.setIfInBounds_toArray, List.set_cons_zero, List.set_cons_succ]
            refine till_take 4 (v := ?_) rfl (by kernel_rfl) (fun _ _ _ h => h) (Or.inl ⟨by rfl, ?_⟩) hS ?_
            rotate_left
            focus (intro w' hSw; obtain ⟨hX, hP⟩ := hSw; have q0 := hX.cell (j := 0) rfl; have q1 := hX.cell (j := 1) rfl; have q2 := hX.cell (j := 2) rfl; have ql := hX.lt; have pl := hP.lt; have r0 := hP.cell (j := 0) rfl; have r1 := hP.cell (j := 1) rfl; have r2 := hP.cell (j := 2) rfl; have r3 := hP.cell (j := 3) rfl; have r4 := hP.cell (j := 4) rfl; have r5 := hP.cell (j := 5) rfl; have r6 := hP.cell (j := 6) rfl; clear hX hP; go_simp; try (with_reducible rfl))
            try simp only [Act.put, List.setIfInBounds_toArray, List.set_cons_zero, List.set_cons_succ]
            refine till_take 5 (v := ?_) rfl (by kernel_rfl) (fun _ _ _ h => h) (Or.inl ⟨by rfl, ?_⟩) hS ?_
            rotate_left
            focus (intro w' hSw; obtain ⟨hX, hP⟩ := hSw; have q0 := hX.cell (j := 0) rfl; have q1 := hX.cell (j := 1) rfl; have q2 := hX.cell (j := 2) rfl; have ql := hX.lt; have pl := hP.lt; have r0 := hP.cell (j := 0) rfl; have r1 := hP.cell (j := 1) rfl; have r2 := hP.cell (j := 2) rfl; have r3 := hP.cell (j := 3) rfl; have r4 := hP.cell (j := 4) rfl; have r5 := hP.cell (j := 5) rfl; have r6 := hP.cell (j := 6) rfl; clear hX hP; go_simp; try (with_reducible rfl))
            try simp only [Act.put, List.setIfInBounds_toArray, List.set_cons_zero, List.set_cons_succ]
            refine till_ready [6] (by kernel_rfl) (TillReady.cons 6 rfl (fun K hK => ?_) TillReady.nil)
            go_simp
            have hb8 : Below W7.heap.size W7 (W7.drew.alloc (.cells #[.int .i64 id.s, .int .i64 id.q, .slice a5 groups.length c5, .int .u64 0, .int .u64 (S.clock + 1), .int .u64 0, .int .u64 0] 55)) := (Below.refl _ _).drew.alloc (Nat.le_refl _) _
            have hS : RBegS x W0.heap.size 1 (S.clock + 1) (.slice la L.length lc) [.int .i64 id.s, .int .i64 id.q, .slice a5 groups.length c5, .int .u64 0, .int .u64 (S.clock + 1), .int .u64 0, .int .u64 0] (W7.drew.alloc (.cells #[.int .i64 id.s, .int .i64 id.q, .slice a5 groups.length c5, .int .u64 0, .int .u64 (S.clock + 1), .int .u64 0, .int .u64 0] 55)) := ⟨HX7.out.keep hb8 HX7.out.lt, HP7.out.keep hb8 HP7.out.lt⟩
            refine (Hid.out hK) _ _ (fun _ => hS) ?_
            try simp only [Act.put, List.setIfInBounds_toArray, List.set_cons_zero, List.set_cons_succ]
            refine till_ready [7] (by kernel_rfl) (TillReady.cons 7 rfl (fun K hK => ?_) TillReady.nil)
            have hN := VarAt.new W7.drew 55 [.int .i64 id.s, .int .i64 id.q, .slice a5 groups.length c5, .int .u64 0, .int .u64 (S.clock + 1), .int .u64 0, .int .u64 0]
            refine step_append_fresh (W7.drew.alloc (.cells #[.int .i64 id.s, .int .i64 id.q, .slice a5 groups.length c5, .int .u64 0, .int .u64 (S.clock + 1), .int .u64 0, .int .u64 0] 55)) rfl (.tmp 70) (.tmp 72) 47 rfl B 55 (.agg #[.int .i64 0, .int .i64 0, .slice none 0 0, .int .u64 0, .int .u64 0, .int .u64 0, .int .u64 0]) 7 72 und47 inf55 rfl (by decide) (.slice la L.length lc) L.length (L.flatMap encR) (by rfl) ?hrow ⟨W7.heap.size, 0, none⟩ 1 1 ([.int .i64 id.s, .int .i64 id.q, .slice a5 groups.length c5, .int .u64 0, .int .u64 (S.clock + 1), .int .u64 0, .int .u64 0]) (by go_simp) rfl ?hnew ?hone (by unfold maxLen; omega) (by omega) ?hB ?_
            case hrow => exact own_belowW (ownsRow_keep H.out.row fun k hk => HF7.out.block k (H.out.row.lt k hk).2 fun e => H.out.lx (hk.trans e)) hb8
            case hnew => intro j u hu; rw [Go.WideShapes.add_plain, Nat.zero_add]; exact hN.cell hu
            case hone => intro u hu; simp only [List.mem_cons, List.not_mem_nil, or_false] at hu; rcases hu with rfl | rfl | rfl | rfl | rfl | rfl | rfl <;> rfl
            case hB => have := H.out.lowX; have := HX7.out.lt; have := hb8.size; omega
            intro v9 w9 hT9 hg9 hvv9
            have hg79 : W7.grownBy w9 (Value.slice la L.length lc).ownBlock := ⟨hg9.os.trans hb8.os, hg9.tape.trans hb8.tape, hg9.output.trans hb8.output, Nat.le_trans hb8.size hg9.size, fun k hk hne => by rw [hg9.block k (Nat.lt_of_lt_of_le hk hb8.size) hne, hb8.block k hk]⟩
            have hgot := H.out.pushed (id := id) (groups := groups) (gv := .slice a5 groups.length c5) HRT.out HOF.out HCL.out HF7.out HX7.out HGS7.out (v2 := v9) (W2 := w9) (by simpa [encR, newOne] using hT9) hg79 (hvv9.imp (fun h => h) fun ⟨k, h1, h2⟩ => ⟨k, h1, Nat.le_trans hb8.size h2⟩)
            obtain ⟨a9, c9, rfl⟩ := owns_slice' hT9
            have hX9 := HX7.out.grown hg79 (fun e => H.out.lx e.symm)
            have hP9 := HP7.out.grown hg79 (fun e => by have := (H.out.row.lt _ e.symm).2; have := HF0.out.size; omega)
            have hS : RBegS x W0.heap.size 1 (S.clock + 1) (.slice la L.length lc) [.int .i64 id.s, .int .i64 id.q, .slice a5 groups.length c5, .int .u64 0, .int .u64 (S.clock + 1), .int .u64 0, .int .u64 0] w9 := ⟨hX9, hP9⟩
            refine (Hid.out hK) _ _ (fun _ => hS) ?_
            try simp only [Act.put, List.setIfInBounds_toArray, List.set_cons_zero, List.set_cons_succ]
            refine till_take 8 (v := ?_) rfl (by kernel_rfl) (fun _ _ _ h => h) (Or.inl ⟨by rfl, ?_⟩) hS ?_
            rotate_left
            focus (intro w' hSw; obtain ⟨hX, hP⟩ := hSw; have q0 := hX.cell (j := 0) rfl; have q1 := hX.cell (j := 1) rfl; have q2 := hX.cell (j := 2) rfl; have ql := hX.lt; have pl := hP.lt; have r0 := hP.cell (j := 0) rfl; have r1 := hP.cell (j := 1) rfl; have r2 := hP.cell (j := 2) rfl; have r3 := hP.cell (j := 3) rfl; have r4 := hP.cell (j := 4) rfl; have r5 := hP.cell (j := 5) rfl; have r6 := hP.cell (j := 6) rfl; clear hX hP; go_simp; try (with_reducible rfl))
            try simp only [Act.put, List.setIfInBounds_toArray, List.set_cons_zero, List.set_cons_succ]
            refine till_take 9 (v := ?_) rfl (by kernel_rfl) (fun _ _ _ h => h) (Or.inl ⟨by rfl, ?_⟩) hS ?_
            rotate_left
            focus (intro w' hSw; obtain ⟨hX, hP⟩ := hSw; have q0 := hX.cell (j := 0) rfl; have q1 := hX.cell (j := 1) rfl; have q2 := hX.cell (j := 2) rfl; have ql := hX.lt; have pl := hP.lt; have r0 := hP.cell (j := 0) rfl; have r1 := hP.cell (j := 1) rfl; have r2 := hP.cell (j := 2) rfl; have r3 := hP.cell (j := 3) rfl; have r4 := hP.cell (j := 4) rfl; have r5 := hP.cell (j := 5) rfl; have r6 := hP.cell (j := 6) rfl; clear hX hP; go_simp; try (with_reducible rfl))
            try simp only [Act.put, List.setIfInBounds_toArray, List.set_cons_zero, List.set_cons_succ]
            refine till_ready [10] (by kernel_rfl) (TillReady.cons 10 rfl (fun K hK => ?_) TillReady.nil)
            have pz := hX9.free 2
            have pc := hX9.cell (j := 2) rfl
            have pl := hX9.lt
            go_simp
            refine (Hid.out hK) _ _ (fun h => absurd rfl h) ?_
            refine till_done (by kernel_rfl) ?_
            refine NoPanic.normal ?_
            have HGOT := Lib.hid hgot
            have f1 := hgot.1.box.cell (j := 1) rfl
            have xl := hgot.1.box.lt
            clear hgot pz pc pl hS hX9 hP9 hN hT9 hg9 hvv9 hg79 hb8
            go_wp2
            go_tidy
            exact END.out _ _ _ HGOT.out.1 HGOT.out.2
          · refine wp_region_noPanic ?_
            refine till_start (RBegS x W0.heap.size 2 (S.clock + 1) (.slice la L.length lc) [.int .i64 id.s, .int .i64 id.q, .slice a5 groups.length c5, .int .u64 0, .int .u64 0, .int .u64 0, .int .u64 0]) 10 (by kernel_rfl) ?_
            have hS := (⟨HX6.out.keep (Below.refl _ _).drew HX6.out.lt, HP6.out.keep (Below.refl _ _).drew HP6.out.lt⟩ : RBegS x W0.heap.size 2 (S.clock + 1) (.slice la L.length lc) [.int .i64 id.s, .int .i64 id.q, .slice a5 groups.length c5, .int .u64 0, .int .u64 0, .int .u64 0, .int .u64 0] W6.drew)
            show AnyTill _ _ _ _ _ _ 11 (Array.replicate 11 false) _ _
            refine till_take 0 (v := ?_) rfl (by kernel_rfl) (fun _ _ _ h => h) (Or.inl ⟨by rfl, ?_⟩) hS ?_
            rotate_left
            focus (intro w' hSw; obtain ⟨hX, hP⟩ := hSw; have q0 := hX.cell (j := 0) rfl; have q1 := hX.cell (j := 1) rfl; have q2 := hX.cell (j := 2) rfl; have ql := hX.lt; have pl := hP.lt; have r0 := hP.cell (j := 0) rfl; have r1 := hP.cell (j := 1) rfl; have r2 := hP.cell (j := 2) rfl; have r3 := hP.cell (j := 3) rfl; have r4 := hP.cell (j := 4) rfl; have r5 := hP.cell (j := 5) rfl; have r6 := hP.cell (j := 6) rfl; clear hX hP; go_simp; try (with_reducible rfl))
            try simp only [Act.put, List.setIfInBounds_toArray, List.set_cons_zero, List.set_cons_succ]
            refine till_take 1 (v := ?_) rfl (by kernel_rfl) (fun _ _ _ h => h) (Or.inl ⟨by rfl, ?_⟩) hS ?_
            rotate_left
            focus (intro w' hSw; obtain ⟨hX, hP⟩ := hSw; have q0 := hX.cell (j := 0) rfl; have q1 := hX.cell (j := 1) rfl; have q2 := hX.cell (j := 2) rfl; have ql := hX.lt; have pl := hP.lt; have r0 := hP.cell (j := 0) rfl; have r1 := hP.cell (j := 1) rfl; have r2 := hP.cell (j := 2) rfl; have r3 := hP.cell (j := 3) rfl; have r4 := hP.cell (j := 4) rfl; have r5 := hP.cell (j := 5) rfl; have r6 := hP.cell (j := 6) rfl; clear hX hP; go_simp; try (with_reducible rfl))
            try simp only [Act.put, List.setIfInBounds_toArray, List.set_cons_zero, List.set_cons_succ]
            refine till_take 2 (v := ?_) rfl (by kernel_rfl) (fun _ _ _ h => h) (Or.inl ⟨by rfl, ?_⟩) hS ?_
            rotate_left
            focus (intro w' hSw; obtain ⟨hX, hP⟩ := hSw; have q0 := hX.cell (j := 0) rfl; have q1 := hX.cell (j := 1) rfl; have q2 := hX.cell (j := 2) rfl; have ql := hX.lt; have pl := hP.lt; have r0 := hP.cell (j := 0) rfl; have r1 := hP.cell (j := 1) rfl; have r2 := hP.cell (j := 2) rfl; have r3 := hP.cell (j := 3) rfl; have r4 := hP.cell (j := 4) rfl; have r5 := hP.cell (j := 5) rfl; have r6 := hP.cell (j := 6) rfl; clear hX hP; go_simp; try (with_reducible rfl))
            try simp only [Act.put, List.setIfInBounds_toArray, List.set_cons_zero, List.set_cons_succ]
            refine till_take 3 (v := ?_) rfl (by kernel_rfl) (fun _ _ _ h => h) (Or.inl ⟨by rfl, ?_⟩) hS ?_
            rotate_left
            focus (intro w' hSw; obtain ⟨hX, hP⟩ := hSw; have q0 := hX.cell (j := 0) rfl; have q1 := hX.cell (j := 1) rfl; have q2 := hX.cell (j := 2) rfl; have ql := hX.lt; have pl := hP.lt; have r0 := hP.cell (j := 0) rfl; have r1 := hP.cell (j := 1) rfl; have r2 := hP.cell (j := 2) rfl; have r3 := hP.cell (j := 3) rfl; have r4 := hP.cell (j := 4) rfl; have r5 := hP.cell (j := 5) rfl; have r6 := hP.cell (j := 6) rfl; clear hX hP; go_simp; try (with_reducible rfl))
            try simp only [Act.put, List.setIfInBounds_toArray, List.set_cons_zero, List.set_cons_succ]
            refine till_take 4 (v := ?_) rfl (by kernel_rfl) (fun _ _ _ h => h) (Or.inl ⟨by rfl, ?_⟩) hS ?_
            rotate_left
            focus (intro w' hSw; obtain ⟨hX, hP⟩ := hSw; have q0 := hX.cell (j := 0) rfl; have q1 := hX.cell (j := 1) rfl; have q2 := hX.cell (j := 2) rfl; have ql := hX.lt; have pl := hP.lt; have r0 := hP.cell (j := 0) rfl; have r1 := hP.cell (j := 1) rfl; have r2 := hP.cell (j := 2) rfl; have r3 := hP.cell (j := 3) rfl; have r4 := hP.cell (j := 4) rfl; have r5 := hP.cell (j := 5) rfl; have r6 := hP.cell (j := 6) rfl; clear hX hP; go_simp; try (with_reducible rfl))
            try simp only [Act.put, List.setIfInBounds_toArray, List.set_cons_zero, List.set_cons_succ]
            refine till_take 5 (v := ?_) rfl (by kernel_rfl) (fun _ _ _ h => h) (Or.inl ⟨by rfl, ?_⟩) hS ?_
            rotate_left
            focus (intro w' hSw; obtain ⟨hX, hP⟩ := hSw; have q0 := hX.cell (j := 0) rfl; have q1 := hX.cell (j := 1) rfl; have q2 := hX.cell (j := 2) rfl; have ql := hX.lt; have pl := hP.lt; have r0 := hP.cell (j := 0) rfl; have r1 := hP.cell (j := 1) rfl; have r2 := hP.cell (j := 2) rfl; have r3 := hP.cell (j := 3) rfl; have r4 := hP.cell (j := 4) rfl; have r5 := hP.cell (j := 5) rfl; have r6 := hP.cell (j := 6) rfl; clear hX hP; go_simp; try (with_reducible rfl))
            try simp only [Act.put, List.setIfInBounds_toArray, List.set_cons_zero, List.set_cons_succ]
            refine till_take 6 (v := ?_) rfl (by kernel_rfl) (fun _ _ _ h => h) (Or.inl ⟨by rfl, ?_⟩) hS ?_
            rotate_left
            focus (intro w' hSw; obtain ⟨hX, hP⟩ := hSw; have q0 := hX.cell (j := 0) rfl; have q1 := hX.cell (j := 1) rfl; have q2 := hX.cell (j := 2) rfl; have ql := hX.lt; have pl := hP.lt; have r0 := hP.cell (j := 0) rfl; have r1 := hP.cell (j := 1) rfl; have r2 := hP.cell (j := 2) rfl; have r3 := hP.cell (j := 3) rfl; have r4 := hP.cell (j := 4) rfl; have r5 := hP.cell (j := 5) rfl; have r6 := hP.cell (j := 6) rfl; clear hX hP; go_simp; try (with_reducible rfl))
            try simp only [Act.put, List.setIfInBounds_toArray, List.set_cons_zero, List.set_cons_succ]
            refine till_take 7 (v := ?_) rfl (by kernel_rfl) (fun _ _ _ h => h) (Or.inl ⟨by rfl, ?_⟩) hS ?_
            rotate_left
            focus (intro w' hSw; obtain ⟨hX, hP⟩ := hSw; have q0 := hX.cell (j := 0) rfl; have q1 := hX.cell (j := 1) rfl; have q2 := hX.cell (j := 2) rfl; have ql := hX.lt; have pl := hP.lt; have r0 := hP.cell (j := 0) rfl; have r1 := hP.cell (j := 1) rfl; have r2 := hP.cell (j := 2) rfl; have r3 := hP.cell (j := 3) rfl; have r4 := hP.cell (j := 4) rfl; have r5 := hP.cell (j := 5) rfl; have r6 := hP.cell (j := 6) rfl; clear hX hP; go_simp; try (with_reducible rfl))
            try simp only [Act.put, List.setIfInBounds_toArray, List.set_cons_zero, List.set_cons_succ]
            refine till_take 8 (v := ?_) rfl (by kernel_rfl) (fun _ _ _ h => h) (Or.inl ⟨by rfl, ?_⟩) hS ?_
            rotate_left
            focus (intro w' hSw; obtain ⟨hX, hP⟩ := hSw; have q0 := hX.cell (j := 0) rfl; have q1 := hX.cell (j := 1) rfl; have q2 := hX.cell (j := 2) rfl; have ql := hX.lt; have pl := hP.lt; have r0 := hP.cell (j := 0) rfl; have r1 := hP.cell (j := 1) rfl; have r2 := hP.cell (j := 2) rfl; have r3 := hP.cell (j := 3) rfl; have r4 := hP.cell (j := 4) rfl; have r5 := hP.cell (j := 5) rfl; have r6 := hP.cell (j := 6) rfl; clear hX hP; go_simp; try (with_reducible rfl))
            try simp only [Act.put, List.setIfInBounds_toArray, List.set_cons_zero, List.set_cons_succ]
            refine till_take 9 (v := ?_) rfl (by kernel_rfl) (fun _ _ _ h => h) (Or.inl ⟨by rfl, ?_⟩) hS ?_
            rotate_left
            focus (intro w' hSw; obtain ⟨hX, hP⟩ := hSw; have q0 := hX.cell (j := 0) rfl; have q1 := hX.cell (j := 1) rfl; have q2 := hX.cell (j := 2) rfl; have ql := hX.lt; have pl := hP.lt; have r0 := hP.cell (j := 0) rfl; have r1 := hP.cell (j := 1) rfl; have r2 := hP.cell (j := 2) rfl; have r3 := hP.cell (j := 3) rfl; have r4 := hP.cell (j := 4) rfl; have r5 := hP.cell (j := 5) rfl; have r6 := hP.cell (j := 6) rfl; clear hX hP; go_simp; try (with_reducible rfl))
            try simp only [Act.put, List.setIfInBounds_toArray, List.set_cons_zero, List.set_cons_succ]
            refine till_ready [10] (by kernel_rfl) (TillReady.cons 10 rfl (fun K hK => ?_) TillReady.nil)
            have pz := hS.2.free 5
            have pc := hS.2.cell (j := 5) rfl
            have pl := hS.2.lt
            go_simp
            refine (Hid.out hK) _ _ (fun h => absurd rfl h) ?_
            refine till_done (by kernel_rfl) ?_
            refine NoPanic.normal ?_
            clear pz pc pl hS
            generalize hW7 : (World.setCell W6 _ _).drew = W7
            have hX7 : VarAt W7 x 64 [.int .i64 2, .int .u64 (S.clock + 1), .slice la L.length lc] := by
              rw [← hW7]; exact (HX6.out.other (a := ⟨W0.heap.size, 5, none⟩) (by have := HX0.out.lt; simp; omega) _).keep (Below.refl _ _).drew (by have := HX6.out.lt; simpa using this)
            have hP7 : VarAt W7 W0.heap.size 55 [.int .i64 id.s, .int .i64 id.q, .slice a5 groups.length c5, .int .u64 0, .int .u64 0, .int .u64 (S.clock + 1), .int .u64 0] := by
              rw [← hW7]; exact (HP6.out.set 5 _).keep (Below.refl _ _).drew (by have := HP6.out.lt; simpa using this)
            have hs7 : W7.heap.size = W6.heap.size := by rw [← hW7]; show (World.setCell W6 _ _).heap.size = _; simp
            have hs0 := HF0.out.size
            have hf7 : w.grownBy W7 (some x) := by
              rw [← hW7]
              refine ⟨HF6.out.os, HF6.out.tape, HF6.out.output, ?_, fun k hk hne => ?_⟩
              · have := HF6.out.size
                show _ ≤ (World.setCell W6 _ _).heap.size
                simpa using this
              · show (World.setCell W6 _ _).heap[k]? = _
                rw [Below.heap_setCell _ _ _ k (by show k ≠ W0.heap.size; omega)]
                exact HF6.out.block k hk hne
            have hgs7 : W7.ownsRow w.heap.size 3 1 (.slice a5 groups.length c5) groups.length (groups.map (Value.int .i64)) := by
              rw [← hW7]
              refine ownsRow_keep HGS6.out fun k hk => ?_
              show (World.setCell W6 _ _).heap[k]? = _
              refine Below.heap_setCell _ _ _ k ?_
              have := HGR.out k hk
              show k ≠ W0.heap.size
              omega
            have HX7 := Lib.hid hX7
            have HP7 := Lib.hid hP7
            have HF7 := Lib.hid hf7
            have HGS7 := Lib.hid hgs7
            clear hW7 hX7 hP7 hf7 hgs7
            go_upto_region 12 with fail
            refine wp_region_noPanic ?_
            refine till_start (RBegS x W0.heap.size 2 (S.clock + 1) (.slice la L.length lc) [.int .i64 id.s, .int .i64 id.q, .slice a5 groups.length c5, .int .u64 0, .int .u64 0, .int .u64 (S.clock + 1), .int .u64 0]) 10 (by kernel_rfl) ?_
            have hS := (⟨HX7.out.keep (Below.refl _ _).drew HX7.out.lt, HP7.out.keep (Below.refl _ _).drew HP7.out.lt⟩ : RBegS x W0.heap.size 2 (S.clock + 1) (.slice la L.length lc) [.int .i64 id.s, .int .i64 id.q, .slice a5 groups.length c5, .int .u64 0, .int .u64 0, .int .u64 (S.clock + 1), .int .u64 0] W7.drew)
            show AnyTill _ _ _ _ _ _ 11 (Array.replicate 11 false) _ _
            refine till_take 0 (v := ?_) rfl (by kernel_rfl) (fun _ _ _ h => h) (Or.inl ⟨by rfl, ?_⟩) hS ?_
            rotate_left
            focus (intro w' hSw; obtain ⟨hX, hP⟩ := hSw; have q0 := hX.cell (j := 0) rfl; have q1 := hX.cell (j := 1) rfl; have q2 := hX.cell (j := 2) rfl; have ql := hX.lt; have pl := hP.lt; have r0 := hP.cell (j := 0) rfl; have r1 := hP.cell (j := 1) rfl; have r2 := hP.cell (j := 2) rfl; have r3 := hP.cell (j := 3) rfl; have r4 := hP.cell (j := 4) rfl; have r5 := hP.cell (j := 5) rfl; have r6 := hP.cell (j := 6) rfl; clear hX hP; go_simp; try (with_reducible rfl))
            try simp only [Act.put, List.setIfInBounds_toArray, List.set_cons_zero, List.set_cons_succ]
            refine till_take 1 (v := ?_) rfl (by kernel_rfl) (fun _ _ _ h => h) (Or.inl ⟨by rfl, ?_⟩) hS ?_
            rotate_left
            focus (intro w' hSw; obtain ⟨hX, hP⟩ := hSw; have q0 := hX.cell (j := 0) rfl; have q1 := hX.cell (j := 1) rfl; have q2 := hX.cell (j := 2) rfl; have ql := hX.lt; have pl := hP.lt; have r0 := hP.cell (j := 0) rfl; have r1 := hP.cell (j := 1) rfl; have r2 := hP.cell (j := 2) rfl; have r3 := hP.cell (j := 3) rfl; have r4 := hP.cell (j := 4) rfl; have r5 := hP.cell (j := 5) rfl; have r6 := hP.cell (j := 6) rfl; clear hX hP; go_simp; try (with_reducible rfl))
            try simp only [Act.put, List.setIfInBounds_toArray, List.set_cons_zero, List.set_cons_succ]
            refine till_take 2 (v := ?_) rfl (by kernel_rfl) (fun _ _ _ h => h) (Or.inl ⟨by rfl, ?_⟩) hS ?_
            rotate_left
            focus (intro w' hSw; obtain ⟨hX, hP⟩ := hSw; have q0 := hX.cell (j := 0) rfl; have q1 := hX.cell (j := 1) rfl; have q2 := hX.cell (j := 2) rfl; have ql := hX.lt; have pl := hP.lt; have r0 := hP.cell (j := 0) rfl; have r1 := hP.cell (j := 1) rfl; have r2 := hP.cell (j := 2) rfl; have r3 := hP.cell (j := 3) rfl; have r4 := hP.cell (j := 4) rfl; have r5 := hP.cell (j := 5) rfl; have r6 := hP.cell (j := 6) rfl; clear hX hP; go_simp; try (with_reducible rfl))
            try simp only [Act.put, List.setIfInBounds_toArray, List.set_cons_zero, List.set_cons_succ]
            refine till_take 3 (v := ?_) rfl (by kernel_rfl) (fun _ _ _ h => h) (Or.inl ⟨by rfl, ?_⟩) hS ?_
            rotate_left
            focus (intro w' hSw; obtain ⟨hX, hP⟩ := hSw; have q0 := hX.cell (j := 0) rfl; have q1 := hX.cell (j := 1) rfl; have q2 := hX.cell (j := 2) rfl; have ql := hX.lt; have pl := hP.lt; have r0 := hP.cell (j := 0) rfl; have r1 := hP.cell (j := 1) rfl; have r2 := hP.cell (j := 2) rfl; have r3 := hP.cell (j := 3) rfl; have r4 := hP.cell (j := 4) rfl; have r5 := hP.cell (j := 5) rfl; have r6 := hP.cell (j := 6) rfl; clear hX hP; go_simp; try (with_reducible rfl))
            try simp only [Act.put, List.setIfInBounds_toArray, List.set_cons_zero, List.set_cons_succ]
            refine till_take 4 (v := ?_) rfl (by kernel_rfl) (fun _ _ _ h => h) (Or.inl ⟨by rfl, ?_⟩) hS ?_
            rotate_left
            focus (intro w' hSw; obtain ⟨hX, hP⟩ := hSw; have q0 := hX.cell (j := 0) rfl; have q1 := hX.cell (j := 1) rfl; have q2 := hX.cell (j := 2) rfl; have ql := hX.lt; have pl := hP.lt; have r0 := hP.cell (j := 0) rfl; have r1 := hP.cell (j := 1) rfl; have r2 := hP.cell (j := 2) rfl; have r3 := hP.cell (j := 3) rfl; have r4 := hP.cell (j := 4) rfl; have r5 := hP.cell (j := 5) rfl; have r6 := hP.cell (j := 6) rfl; clear hX hP; go_simp; try (with_reducible rfl))
            try simp only [Act.put, List.setIfInBounds_toArray, List.set_cons_zero, List.set_cons_succ]
            refine till_take 5 (v := ?_) rfl (by kernel_rfl) (fun _ _ _ h => h) (Or.inl ⟨by rfl, ?_⟩) hS ?_
            rotate_left
            focus (intro w' hSw; obtain ⟨hX, hP⟩ := hSw; have q0 := hX.cell (j := 0) rfl; have q1 := hX.cell (j := 1) rfl; have q2 := hX.cell (j := 2) rfl; have ql := hX.lt; have pl := hP.lt; have r0 := hP.cell (j := 0) rfl; have r1 := hP.cell (j := 1) rfl; have r2 := hP.cell (j := 2) rfl; have r3 := hP.cell (j := 3) rfl; have r4 := hP.cell (j := 4) rfl; have r5 := hP.cell (j := 5) rfl; have r6 := hP.cell (j := 6) rfl; clear hX hP; go_simp; try (with_reducible rfl))
            try simp only [Act.put, List.setIfInBounds_toArray, List.set_cons_zero, List.set_cons_succ]
            refine till_ready [6] (by kernel_rfl) (TillReady.cons 6 rfl (fun K hK => ?_) TillReady.nil)
            go_simp
            have hb8 : Below W7.heap.size W7 (W7.drew.alloc (.cells #[.int .i64 id.s, .int .i64 id.q, .slice a5 groups.length c5, .int .u64 0, .int .u64 0, .int .u64 (S.clock + 1), .int .u64 0] 55)) := (Below.refl _ _).drew.alloc (Nat.le_refl _) _
            have hS : RBegS x W0.heap.size 2 (S.clock + 1) (.slice la L.length lc) [.int .i64 id.s, .int .i64 id.q, .slice a5 groups.length c5, .int .u64 0, .int .u64 0, .int .u64 (S.clock + 1), .int .u64 0] (W7.drew.alloc (.cells #[.int .i64 id.s, .int .i64 id.q, .slice a5 groups.length c5, .int .u64 0, .int .u64 0, .int .u64 (S.clock + 1), .int .u64 0] 55)) := ⟨HX7.out.keep hb8 HX7.out.lt, HP7.out.keep hb8 HP7.out.lt⟩
            refine (Hid.out hK) _ _ (fun _ => hS) ?_
            try simp only [Act.put, List.setIfInBounds_toArray, List.set_cons_zero, List.set_cons_succ]
            refine till_ready [7] (by kernel_rfl) (TillReady.cons 7 rfl (fun K hK => ?_) TillReady.nil)
            have hN := VarAt.new W7.drew 55 [.int .i64 id.s, .int .i64 id.q, .slice a5 groups.length c5, .int .u64 0, .int .u64 0, .int .u64 (S.clock + 1), .int .u64 0]
            refine step_append_fresh (W7.drew.alloc (.cells #[.int .i64 id.s, .int .i64 id.q, .slice a5 groups.length c5, .int .u64 0, .int .u64 0, .int .u64 (S.clock + 1), .int .u64 0] 55)) rfl (.tmp 70) (.tmp 72) 47 rfl B 55 (.agg #[.int .i64 0, .int .i64 0, .slice none 0 0, .int .u64 0, .int .u64 0, .int .u64 0, .int .u64 0]) 7 72 und47 inf55 rfl (by decide) (.slice la L.length lc) L.length (L.flatMap encR) (by rfl) ?hrow ⟨W7.heap.size, 0, none⟩ 1 1 ([.int .i64 id.s, .int .i64 id.q, .slice a5 groups.length c5, .int .u64 0, .int .u64 0, .int .u64 (S.clock + 1), .int .u64 0]) (by go_simp) rfl ?hnew ?hone (by unfold maxLen; omega) (by omega) ?hB ?_
            case hrow => exact own_belowW (ownsRow_keep H.out.row fun k hk => HF7.out.block k (H.out.row.lt k hk).2 fun e => H.out.lx (hk.trans e)) hb8
            case hnew => intro j u hu; rw [Go.WideShapes.add_plain, Nat.zero_add]; exact hN.cell hu
            case hone => intro u hu; simp only [List.mem_cons, List.not_mem_nil, or_false] at hu; rcases hu with rfl | rfl | rfl | rfl | rfl | rfl | rfl <;> rfl
            case hB => have := H.out.lowX; have := HX7.out.lt; have := hb8.size; omega
            intro v9 w9 hT9 hg9 hvv9
            have hg79 : W7.grownBy w9 (Value.slice la L.length lc).ownBlock := ⟨hg9.os.trans hb8.os, hg9.tape.trans hb8.tape, hg9.output.trans hb8.output, Nat.le_trans hb8.size hg9.size, fun k hk hne => by rw [hg9.block k (Nat.lt_of_lt_of_le hk hb8.size) hne, hb8.block k hk]⟩
            have hgot := H.out.pushed (id := id) (groups := groups) (gv := .slice a5 groups.length c5) HRT.out HOF.out HCL.out HF7.out HX7.out HGS7.out (v2 := v9) (W2 := w9) (by simpa [encR, newOne] using hT9) hg79 (hvv9.imp (fun h => h) fun ⟨k, h1, h2⟩ => ⟨k, h1, Nat.le_trans hb8.size h2⟩)
            obtain ⟨a9, c9, rfl⟩ := owns_slice' hT9
            have hX9 := HX7.out.grown hg79 (fun e => H.out.lx e.symm)
            have hP9 := HP7.out.grown hg79 (fun e => by have := (H.out.row.lt _ e.symm).2; have := HF0.out.size; omega)
            have hS : RBegS x W0.heap.size 2 (S.clock + 1) (.slice la L.length lc) [.int .i64 id.s, .int .i64 id.q, .slice a5 groups.length c5, .int .u64 0, .int .u64 0, .int .u64 (S.clock + 1), .int .u64 0] w9 := ⟨hX9, hP9⟩
            refine (Hid.out hK) _ _ (fun _ => hS) ?_
            try simp only [Act.put, List.setIfInBounds_toArray, List.set_cons_zero, List.set_cons_succ]
            refine till_take 8 (v := ?_) rfl (by kernel_rfl) (fun _ _ _ h => h) (Or.inl ⟨by rfl, ?_⟩) hS ?_
            rotate_left
            focus (intro w' hSw; obtain ⟨hX, hP⟩ := hSw; have q0 := hX.cell (j := 0) rfl; have q1 := hX.cell (j := 1) rfl; have q2 := hX.cell (j := 2) rfl; have ql := hX.lt; have pl := hP.lt; have r0 := hP.cell (j := 0) rfl; have r1 := hP.cell (j := 1) rfl; have r2 := hP.cell (j := 2) rfl; have r3 := hP.cell (j := 3) rfl; have r4 := hP.cell (j := 4) rfl; have r5 := hP.cell (j := 5) rfl; have r6 := hP.cell (j := 6) rfl; clear hX hP; go_simp; try (with_reducible rfl))
            try simp only [Act.put, List.setIfInBounds_toArray, List.set_cons_zero, List.set_cons_succ]
            refine till_take 9 (v := ?_) rfl (by kernel_rfl) (fun _ _ _ h => h) (Or.inl ⟨by rfl, ?_⟩) hS ?_
            rotate_left
            focus (intro w' hSw; obtain ⟨hX, hP⟩ := hSw; have q0 := hX.cell (j := 0) rfl; have q1 := hX.cell (j := 1) rfl; have q2 := hX.cell (j := 2) rfl; have ql := hX.lt; have pl := hP.lt; have r0 := hP.cell (j := 0) rfl; have r1 := hP.cell (j := 1) rfl; have r2 := hP.cell (j := 2) rfl; have r3 := hP.cell (j := 3) rfl; have r4 := hP.cell (j := 4) rfl; have r5 := hP.cell (j := 5) rfl; have r6 := hP.cell (j := 6) rfl; clear hX hP; go_simp; try (with_reducible rfl))
            try simp only [Act.put, List.setIfInBounds_toArray, List.set_cons_zero, List.set_cons_succ]
            refine till_ready [10] (by kernel_rfl) (TillReady.cons 10 rfl (fun K hK => ?_) TillReady.nil)
            have pz := hX9.free 2
            have pc := hX9.cell (j := 2) rfl
            have pl := hX9.lt
            go_simp
            refine (Hid.out hK) _ _ (fun h => absurd rfl h) ?_
            refine till_done (by kernel_rfl) ?_
            refine NoPanic.normal ?_
            have HGOT := Lib.hid hgot
            have f1 := hgot.1.box.cell (j := 1) rfl
            have xl := hgot.1.box.lt
            clear hgot pz pc pl hS hX9 hP9 hN hT9 hg9 hvv9 hg79 hb8
            go_wp2
            go_tidy
            exact END.out _ _ _ HGOT.out.1 HGOT.out.2
          · refine wp_region_noPanic ?_
            refine till_start (RBegS x W0.heap.size 3 (S.clock + 1) (.slice la L.length lc) [.int .i64 id.s, .int .i64 id.q, .slice a5 groups.length c5, .int .u64 0, .int .u64 0, .int .u64 0, .int .u64 0]) 10 (by kernel_rfl) ?_
            have hS := (⟨HX6.out.keep (Below.refl _ _).drew HX6.out.lt, HP6.out.keep (Below.refl _ _).drew HP6.out.lt⟩ : RBegS x W0.heap.size 3 (S.clock + 1) (.slice la L.length lc) [.int .i64 id.s, .int .i64 id.q, .slice a5 groups.length c5, .int .u64 0, .int .u64 0, .int .u64 0, .int .u64 0] W6.drew)
            show AnyTill _ _ _ _ _ _ 11 (Array.replicate 11 false) _ _
            refine till_take 0 (v := ?_) rfl (by kernel_rfl) (fun _ _ _ h => h) (Or.inl ⟨by rfl, ?_⟩) hS ?_
            rotate_left
            focus (intro w' hSw; obtain ⟨hX, hP⟩ := hSw; have q0 := hX.cell (j := 0) rfl; have q1 := hX.cell (j := 1) rfl; have q2 := hX.cell (j := 2) rfl; have ql := hX.lt; have pl := hP.lt; have r0 := hP.cell (j := 0) rfl; have r1 := hP.cell (j := 1) rfl; have r2 := hP.cell (j := 2) rfl; have r3 := hP.cell (j := 3) rfl; have r4 := hP.cell (j := 4) rfl; have r5 := hP.cell (j := 5) rfl; have r6 := hP.cell (j := 6) rfl; clear hX hP; go_simp; try (with_reducible rfl))
            try simp only [Act.put, List.setIfInBounds_toArray, List.set_cons_zero, List.set_cons_succ]
            refine till_take 1 (v := ?_) rfl (by kernel_rfl) (fun _ _ _ h => h) (Or.inl ⟨by rfl, ?_⟩) hS ?_
            rotate_left
            focus (intro w' hSw; obtain ⟨hX, hP⟩ := hSw; have q0 := hX.cell (j := 0) rfl; have q1 := hX.cell (j := 1) rfl; have q2 := hX.cell (j := 2) rfl; have ql := hX.lt; have pl := hP.lt; have r0 := hP.cell (j := 0) rfl; have r1 := hP.cell (j := 1) rfl; have r2 := hP.cell (j := 2) rfl; have r3 := hP.cell (j := 3) rfl; have r4 := hP.cell (j := 4) rfl; have r5 := hP.cell (j := 5) rfl; have r6 := hP.cell (j := 6) rfl; clear hX hP; go_simp; try (with_reducible rfl))
            try simp only [Act.put, List.setIfInBounds_toArray, List.set_cons_zero, List.set_cons_succ]
            refine till_take 2 (v := ?_) rfl (by kernel_rfl) (fun _ _ _ h => h) (Or.inl ⟨by rfl, ?_⟩) hS ?_
            rotate_left
            focus (intro w' hSw; obtain ⟨hX, hP⟩ := hSw; have q0 := hX.cell (j := 0) rfl; have q1 := hX.cell (j := 1) rfl; have q2 := hX.cell (j := 2) rfl; have ql := hX.lt; have pl := hP.lt; have r0 := hP.cell (j := 0) rfl; have r1 := hP.cell (j := 1) rfl; have r2 := hP.cell (j := 2) rfl; have r3 := hP.cell (j := 3) rfl; have r4 := hP.cell (j := 4) rfl; have r5 := hP.cell (j := 5) rfl; have r6 := hP.cell (j := 6) rfl; clear hX hP; go_simp; try (with_reducible rfl))
            try simp only [Act.put, List.setIfInBounds_toArray, List.set_cons_zero, List.set_cons_succ]
            refine till_take 3 (v := ?_) rfl (by kernel_rfl) (fun _ _ _ h => h) (Or.inl ⟨by rfl, ?_⟩) hS ?_
            rotate_left
            focus (intro w' hSw; obtain ⟨hX, hP⟩ := hSw; have q0 := hX.cell (j := 0) rfl; have q1 := hX.cell (j := 1) rfl; have q2 := hX.cell (j := 2) rfl; have ql := hX.lt; have pl := hP.lt; have r0 := hP.cell (j := 0) rfl; have r1 := hP.cell (j := 1) rfl; have r2 := hP.cell (j := 2) rfl; have r3 := hP.cell (j := 3) rfl; have r4 := hP.cell (j := 4) rfl; have r5 := hP.cell (j := 5) rfl; have r6 := hP.cell (j := 6) rfl; clear hX hP; go_simp; try (with_reducible rfl))
            try simp only [Act.put, List.setIfInBounds_toArray, List.set_cons_zero, List.set_cons_succ]
            refine till_take 4 (v := ?_) rfl (by kernel_rfl) (fun _ _ _ h => h) (Or.inl ⟨by rfl, ?_⟩) hS ?_
            rotate_left
            focus (intro w' hSw; obtain ⟨hX, hP⟩ := hSw; have q0 := hX.cell (j := 0) rfl; have q1 := hX.cell (j := 1) rfl; have q2 := hX.cell (j := 2) rfl; have ql := hX.lt; have pl := hP.lt; have r0 := hP.cell (j := 0) rfl; have r1 := hP.cell (j := 1) rfl; have r2 := hP.cell (j := 2) rfl; have r3 := hP.cell (j := 3) rfl; have r4 := hP.cell (j := 4) rfl; have r5 := hP.cell (j := 5) rfl; have r6 := hP.cell (j := 6) rfl; clear hX hP; go_simp; try (with_reducible rfl))
            try simp only [Act.put, List.setIfInBounds_toArray, List.set_cons_zero, List.set_cons_succ]
            refine till_take 5 (v := ?_) rfl (by kernel_rfl) (fun _ _ _ h => h) (Or.inl ⟨by rfl, ?_⟩) hS ?_
            rotate_left
            focus (intro w' hSw; obtain ⟨hX, hP⟩ := hSw; have q0 := hX.cell (j := 0) rfl; have q1 := hX.cell (j := 1) rfl; have q2 := hX.cell (j := 2) rfl; have ql := hX.lt; have pl := hP.lt; have r0 := hP.cell (j := 0) rfl; have r1 := hP.cell (j := 1) rfl; have r2 := hP.cell (j := 2) rfl; have r3 := hP.cell (j := 3) rfl; have r4 := hP.cell (j := 4) rfl; have r5 := hP.cell (j := 5) rfl; have r6 := hP.cell (j := 6) rfl; clear hX hP; go_simp; try (with_reducible rfl))
            try simp only [Act.put, List.setIfInBounds_toArray, List.set_cons_zero, List.set_cons_succ]
            refine till_take 6 (v := ?_) rfl (by kernel_rfl) (fun _ _ _ h => h) (Or.inl ⟨by rfl, ?_⟩) hS ?_
            rotate_left
            focus (intro w' hSw; obtain ⟨hX, hP⟩ := hSw; have q0 := hX.cell (j := 0) rfl; have q1 := hX.cell (j := 1) rfl; have q2 := hX.cell (j := 2) rfl; have ql := hX.lt; have pl := hP.lt; have r0 := hP.cell (j := 0) rfl; have r1 := hP.cell (j := 1) rfl; have r2 := hP.cell (j := 2) rfl; have r3 := hP.cell (j := 3) rfl; have r4 := hP.cell (j := 4) rfl; have r5 := hP.cell (j := 5) rfl; have r6 := hP.cell (j := 6) rfl; clear hX hP; go_simp; try (with_reducible rfl))
            try simp only [Act.put, List.setIfInBounds_toArray, List.set_cons_zero, List.set_cons_succ]
            refine till_take 7 (v := ?_) rfl (by kernel_rfl) (fun _ _ _ h => h) (Or.inl ⟨by rfl, ?_⟩) hS ?_
            rotate_left
            focus (intro w' hSw; obtain ⟨hX, hP⟩ := hSw; have q0 := hX.cell (j := 0) rfl; have q1 := hX.cell (j := 1) rfl; have q2 := hX.cell (j := 2) rfl; have ql := hX.lt; have pl := hP.lt; have r0 := hP.cell (j := 0) rfl; have r1 := hP.cell (j := 1) rfl; have r2 := hP.cell (j := 2) rfl; have r3 := hP.cell (j := 3) rfl; have r4 := hP.cell (j := 4) rfl; have r5 := hP.cell (j := 5) rfl; have r6 := hP.cell (j := 6) rfl; clear hX hP; go_simp; try (with_reducible rfl))
            try simp only [Act.put, List.setIfInBounds_toArray, List.set_cons_zero, List.set_cons_succ]
            refine till_take 8 (v := ?_) rfl (by kernel_rfl) (fun _ _ _ h => h) (Or.inl ⟨by rfl, ?_⟩) hS ?_
            rotate_left
            focus (intro w' hSw; obtain ⟨hX, hP⟩ := hSw; have q0 := hX.cell (j := 0) rfl; have q1 := hX.cell (j := 1) rfl; have q2 := hX.cell (j := 2) rfl; have ql := hX.lt; have pl := hP.lt; have r0 := hP.cell (j := 0) rfl; have r1 := hP.cell (j := 1) rfl; have r2 := hP.cell (j := 2) rfl; have r3 := hP.cell (j := 3) rfl; have r4 := hP.cell (j := 4) rfl; have r5 := hP.cell (j := 5) rfl; have r6 := hP.cell (j := 6) rfl; clear hX hP; go_simp; try (with_reducible rfl))
            try simp only [Act.put, List.setIfInBounds_toArray, List.set_cons_zero, List.set_cons_succ]
            refine till_take 9 (v := ?_) rfl (by kernel_rfl) (fun _ _ _ h => h) (Or.inl ⟨by rfl, ?_⟩) hS ?_
            rotate_left
            focus (intro w' hSw; obtain ⟨hX, hP⟩ := hSw; have q0 := hX.cell (j := 0) rfl; have q1 := hX.cell (j := 1) rfl; have q2 := hX.cell (j := 2) rfl; have ql := hX.lt; have pl := hP.lt; have r0 := hP.cell (j := 0) rfl; have r1 := hP.cell (j := 1) rfl; have r2 := hP.cell (j := 2) rfl; have r3 := hP.cell (j := 3) rfl; have r4 := hP.cell (j := 4) rfl; have r5 := hP.cell (j := 5) rfl; have r6 := hP.cell (j := 6) rfl; clear hX hP; go_simp; try (with_reducible rfl))
            try simp only [Act.put, List.setIfInBounds_toArray, List.set_cons_zero, List.set_cons_succ]
            refine till_ready [10] (by kernel_rfl) (TillReady.cons 10 rfl (fun K hK => ?_) TillReady.nil)
            have pz := hS.2.free 6
            have pc := hS.2.cell (j := 6) rfl
            have pl := hS.2.lt
            go_simp
            refine (Hid.out hK) _ _ (fun h => absurd rfl h) ?_
            refine till_done (by kernel_rfl) ?_
            refine NoPanic.normal ?_
            clear pz pc pl hS
            generalize hW7 : (World.setCell W6 _ _).drew = W7
            have hX7 : VarAt W7 x 64 [.int .i64 3, .int .u64 (S.clock + 1), .slice la L.length lc] := by
              rw [← hW7]; exact (HX6.out.other (a := ⟨W0.heap.size, 6, none⟩) (by have := HX0.out.lt; simp; omega) _).keep (Below.refl _ _).drew (by have := HX6.out.lt; simpa using this)
            have hP7 : VarAt W7 W0.heap.size 55 [.int .i64 id.s, .int .i64 id.q, .slice a5 groups.length c5, .int .u64 0, .int .u64 0, .int .u64 0, .int .u64 (S.clock + 1)] := by
              rw [← hW7]; exact (HP6.out.set 6 _).keep (Below.refl _ _).drew (by have := HP6.out.lt; simpa using this)
            have hs7 : W7.heap.size = W6.heap.size := by rw [← hW7]; show (World.setCell W6 _ _).heap.size = _; simp
            have hs0 := HF0.out.size
            have hf7 : w.grownBy W7 (some x) := by
              rw [← hW7]
              refine ⟨HF6.out.os, HF6.out.tape, HF6.out.output, ?_, fun k hk hne => ?_⟩
              · have := HF6.out.size
                show _ ≤ (World.setCell W6 _ _).heap.size
                simpa using this
              · show (World.setCell W6 _ _).heap[k]? = _
                rw [Below.heap_setCell _ _ _ k (by show k ≠ W0.heap.size; omega)]
                exact HF6.out.block k hk hne
            have hgs7 : W7.ownsRow w.heap.size 3 1 (.slice a5 groups.length c5) groups.length (groups.map (Value.int .i64)) := by
              rw [← hW7]
              refine ownsRow_keep HGS6.out fun k hk => ?_
              show (World.setCell W6 _ _).heap[k]? = _
              refine Below.heap_setCell _ _ _ k ?_
              have := HGR.out k hk
              show k ≠ W0.heap.size
              omega
            have HX7 := Lib.hid hX7
            have HP7 := Lib.hid hP7
            have HF7 := Lib.hid hf7
            have HGS7 := Lib.hid hgs7
            clear hW7 hX7 hP7 hf7 hgs7
            go_upto_region 12 with fail
            refine wp_region_noPanic ?_
            refine till_start (RBegS x W0.heap.size 3 (S.clock + 1) (.slice la L.length lc) [.int .i64 id.s, .int .i64 id.q, .slice a5 groups.length c5, .int .u64 0, .int .u64 0, .int .u64 0, .int .u64 (S.clock + 1)]) 10 (by kernel_rfl) ?_
            have hS := (⟨HX7.out.keep (Below.refl _ _).drew HX7.out.lt, HP7.out.keep (Below.refl _ _).drew HP7.out.lt⟩ : RBegS x W0.heap.size 3 (S.clock + 1) (.slice la L.length lc) [.int .i64 id.s, .int .i64 id.q, .slice a5 groups.length c5, .int .u64 0, .int .u64 0, .int .u64 0, .int .u64 (S.clock + 1)] W7.drew)
            show AnyTill _ _ _ _ _ _ 11 (Array.replicate 11 false) _ _
            refine till_take 0 (v := ?_) rfl (by kernel_rfl) (fun _ _ _ h => h) (Or.inl ⟨by rfl, ?_⟩) hS ?_
            rotate_left
            focus (intro w' hSw; obtain ⟨hX, hP⟩ := hSw; have q0 := hX.cell (j := 0) rfl; have q1 := hX.cell (j := 1) rfl; have q2 := hX.cell (j := 2) rfl; have ql := hX.lt; have pl := hP.lt; have r0 := hP.cell (j := 0) rfl; have r1 := hP.cell (j := 1) rfl; have r2 := hP.cell (j := 2) rfl; have r3 := hP.cell (j := 3) rfl; have r4 := hP.cell (j := 4) rfl; have r5 := hP.cell (j := 5) rfl; have r6 := hP.cell (j := 6) rfl; clear hX hP; go_simp; try (with_reducible rfl))
            try simp only [Act.put, List.setIfInBounds_toArray, List.set_cons_zero, List.set_cons_succ]
            refine till_take 1 (v := ?_) rfl (by kernel_rfl) (fun _ _ _ h => h) (Or.inl ⟨by rfl, ?_⟩) hS ?_
            rotate_left
            focus (intro w' hSw; obtain ⟨hX, hP⟩ := hSw; have q0 := hX.cell (j := 0) rfl; have q1 := hX.cell (j := 1) rfl; have q2 := hX.cell (j := 2) rfl; have ql := hX.lt; have pl := hP.lt; have r0 := hP.cell (j := 0) rfl; have r1 := hP.cell (j := 1) rfl; have r2 := hP.cell (j := 2) rfl; have r3 := hP.cell (j := 3) rfl; have r4 := hP.cell (j := 4) rfl; have r5 := hP.cell (j := 5) rfl; have r6 := hP.cell (j := 6) rfl; clear hX hP; go_simp; try (with_reducible rfl))
            try simp only [Act.put, List.setIfInBounds_toArray, List.set_cons_zero, List.set_cons_succ]
            refine till_take 2 (v := ?_) rfl (by kernel_rfl) (fun _ _ _ h => h) (Or.inl ⟨by rfl, ?_⟩) hS ?_
            rotate_left
            focus (intro w' hSw; obtain ⟨hX, hP⟩ := hSw; have q0 := hX.cell (j := 0) rfl; have q1 := hX.cell (j := 1) rfl; have q2 := hX.cell (j := 2) rfl; have ql := hX.lt; have pl := hP.lt; have r0 := hP.cell (j := 0) rfl; have r1 := hP.cell (j := 1) rfl; have r2 := hP.cell (j := 2) rfl; have r3 := hP.cell (j := 3) rfl; have r4 := hP.cell (j := 4) rfl; have r5 := hP.cell (j := 5) rfl; have r6 := hP.cell (j := 6) rfl; clear hX hP; go_simp; try (with_reducible rfl))
            try simp only [Act.put, List.setIfInBounds_toArray, List.set_cons_zero, List.set_cons_succ]
            refine till_take 3 (v := ?_) rfl (by kernel_rfl) (fun _ _ _ h => h) (Or.inl ⟨by rfl, ?_⟩) hS ?_
            rotate_left
            focus (intro w' hSw; obtain ⟨hX, hP⟩ := hSw; have q0 := hX.cell (j := 0) rfl; have q1 := hX.cell (j := 1) rfl; have q2 := hX.cell (j := 2) rfl; have ql := hX.lt; have pl := hP.lt; have r0 := hP.cell (j := 0) rfl; have r1 := hP.cell (j := 1) rfl; have r2 := hP.cell (j := 2) rfl; have r3 := hP.cell (j := 3) rfl; have r4 := hP.cell (j := 4) rfl; have r5 := hP.cell (j := 5) rfl; have r6 := hP.cell (j := 6) rfl; clear hX hP; go_simp; try (with_reducible rfl))
            try simp only [Act.put, List.setIfInBounds_toArray, List.set_cons_zero, List.set_cons_succ]
            refine till_take 4 (v := ?_) rfl (by kernel_rfl) (fun _ _ _ h => h) (Or.inl ⟨by rfl, ?_⟩) hS ?_
            rotate_left
            focus (intro w' hSw; obtain ⟨hX, hP⟩ := hSw; have q0 := hX.cell (j := 0) rfl; have q1 := hX.cell (j := 1) rfl; have q2 := hX.cell (j := 2) rfl; have ql := hX.lt; have pl := hP.lt; have r0 := hP.cell (j := 0) rfl; have r1 := hP.cell (j := 1) rfl; have r2 := hP.cell (j := 2) rfl; have r3 := hP.cell (j := 3) rfl; have r4 := hP.cell (j := 4) rfl; have r5 := hP.cell (j := 5) rfl; have r6 := hP.cell (j := 6) rfl; clear hX hP; go_simp; try (with_reducible rfl))
            try simp only [Act.put, List.setIfInBounds_toArray, List.set_cons_zero, List.set_cons_succ]
            refine till_take 5 (v := ?_) rfl (by kernel_rfl) (fun _ _ _ h => h) (Or.inl ⟨by rfl, ?_⟩) hS ?_
            rotate_left
            focus (intro w' hSw; obtain ⟨hX, hP⟩ := hSw; have q0 := hX.cell (j := 0) rfl; have q1 := hX.cell (j := 1) rfl; have q2 := hX.cell (j := 2) rfl; have ql := hX.lt; have pl := hP.lt; have r0 := hP.cell (j := 0) rfl; have r1 := hP.cell (j := 1) rfl; have r2 := hP.cell (j := 2) rfl; have r3 := hP.cell (j := 3) rfl; have r4 := hP.cell (j := 4) rfl; have r5 := hP.cell (j := 5) rfl; have r6 := hP.cell (j := 6) rfl; clear hX hP; go_simp; try (with_reducible rfl))
            try simp only [Act.put, List.setIfInBounds_toArray, List.set_cons_zero, List.set_cons_succ]
            refine till_ready [6] (by kernel_rfl) (TillReady.cons 6 rfl (fun K hK => ?_) TillReady.nil)
            go_simp
            have hb8 : Below W7.heap.size W7 (W7.drew.alloc (.cells #[.int .i64 id.s, .int .i64 id.q, .slice a5 groups.length c5, .int .u64 0, .int .u64 0, .int .u64 0, .int .u64 (S.clock + 1)] 55)) := (Below.refl _ _).drew.alloc (Nat.le_refl _) _
            have hS : RBegS x W0.heap.size 3 (S.clock + 1) (.slice la L.length lc) [.int .i64 id.s, .int .i64 id.q, .slice a5 groups.length c5, .int .u64 0, .int .u64 0, .int .u64 0, .int .u64 (S.clock + 1)] (W7.drew.alloc (.cells #[.int .i64 id.s, .int .i64 id.q, .slice a5 groups.length c5, .int .u64 0, .int .u64 0, .int .u64 0, .int .u64 (S.clock + 1)] 55)) := ⟨HX7.out.keep hb8 HX7.out.lt, HP7.out.keep hb8 HP7.out.lt⟩
            refine (Hid.out hK) _ _ (fun _ => hS) ?_
            try simp only [Act.put, List.setIfInBounds_toArray, List.set_cons_zero, List.set_cons_succ]
            refine till_ready [7] (by kernel_rfl) (TillReady.cons 7 rfl (fun K hK => ?_) TillReady.nil)
            have hN := VarAt.new W7.drew 55 [.int .i64 id.s, .int .i64 id.q, .slice a5 groups.length c5, .int .u64 0, .int .u64 0, .int .u64 0, .int .u64 (S.clock + 1)]
            refine step_append_fresh (W7.drew.alloc (.cells #[.int .i64 id.s, .int .i64 id.q, .slice a5 groups.length c5, .int .u64 0, .int .u64 0, .int .u64 0, .int .u64 (S.clock + 1)] 55)) rfl (.tmp 70) (.tmp 72) 47 rfl B 55 (.agg #[.int .i64 0, .int .i64 0, .slice none 0 0, .int .u64 0, .int .u64 0, .int .u64 0, .int .u64 0]) 7 72 und47 inf55 rfl (by decide) (.slice la L.length lc) L.length (L.flatMap encR) (by rfl) ?hrow ⟨W7.heap.size, 0, none⟩ 1 1 ([.int .i64 id.s, .int .i64 id.q, .slice a5 groups.length c5, .int .u64 0, .int .u64 0, .int .u64 0, .int .u64 (S.clock + 1)]) (by go_simp) rfl ?hnew ?hone (by unfold maxLen; omega) (by omega) ?hB ?_
            case hrow => exact own_belowW (ownsRow_keep H.out.row fun k hk => HF7.out.block k (H.out.row.lt k hk).2 fun e => H.out.lx (hk.trans e)) hb8
            case hnew => intro j u hu; rw [Go.WideShapes.add_plain, Nat.zero_add]; exact hN.cell hu
            case hone => intro u hu; simp only [List.mem_cons, List.not_mem_nil, or_false] at hu; rcases hu with rfl | rfl | rfl | rfl | rfl | rfl | rfl <;> rfl
            case hB => have := H.out.lowX; have := HX7.out.lt; have := hb8.size; omega
            intro v9 w9 hT9 hg9 hvv9
            have hg79 : W7.grownBy w9 (Value.slice la L.length lc).ownBlock := ⟨hg9.os.trans hb8.os, hg9.tape.trans hb8.tape, hg9.output.trans hb8.output, Nat.le_trans hb8.size hg9.size, fun k hk hne => by rw [hg9.block k (Nat.lt_of_lt_of_le hk hb8.size) hne, hb8.block k hk]⟩
            have hgot := H.out.pushed (id := id) (groups := groups) (gv := .slice a5 groups.length c5) HRT.out HOF.out HCL.out HF7.out HX7.out HGS7.out (v2 := v9) (W2 := w9) (by simpa [encR, newOne] using hT9) hg79 (hvv9.imp (fun h => h) fun ⟨k, h1, h2⟩ => ⟨k, h1, Nat.le_trans hb8.size h2⟩)
            obtain ⟨a9, c9, rfl⟩ := owns_slice' hT9
            have hX9 := HX7.out.grown hg79 (fun e => H.out.lx e.symm)
            have hP9 := HP7.out.grown hg79 (fun e => by have := (H.out.row.lt _ e.symm).2; have := HF0.out.size; omega)
            have hS : RBegS x W0.heap.size 3 (S.clock + 1) (.slice la L.length lc) [.int .i64 id.s, .int .i64 id.q, .slice a5 groups.length c5, .int .u64 0, .int .u64 0, .int .u64 0, .int .u64 (S.clock + 1)] w9 := ⟨hX9, hP9⟩
            refine (Hid.out hK) _ _ (fun _ => hS) ?_
            try simp only [Act.put, List.setIfInBounds_toArray, List.set_cons_zero, List.set_cons_succ]
            refine till_take 8 (v := ?_) rfl (by kernel_rfl) (fun _ _ _ h => h) (Or.inl ⟨by rfl, ?_⟩) hS ?_
            rotate_left
            focus (intro w' hSw; obtain ⟨hX, hP⟩ := hSw; have q0 := hX.cell (j := 0) rfl; have q1 := hX.cell (j := 1) rfl; have q2 := hX.cell (j := 2) rfl; have ql := hX.lt; have pl := hP.lt; have r0 := hP.cell (j := 0) rfl; have r1 := hP.cell (j := 1) rfl; have r2 := hP.cell (j := 2) rfl; have r3 := hP.cell (j := 3) rfl; have r4 := hP.cell (j := 4) rfl; have r5 := hP.cell (j := 5) rfl; have r6 := hP.cell (j := 6) rfl; clear hX hP; go_simp; try (with_reducible rfl))
            try simp only [Act.put, List.setIfInBounds_toArray, List.set_cons_zero, List.set_cons_succ]
            refine till_take 9 (v := ?_) rfl (by kernel_rfl) (fun _ _ _ h => h) (Or.inl ⟨by rfl, ?_⟩) hS ?_
            rotate_left
            focus (intro w' hSw; obtain ⟨hX, hP⟩ := hSw; have q0 := hX.cell (j := 0) rfl; have q1 := hX.cell (j := 1) rfl; have q2 := hX.cell (j := 2) rfl; have ql := hX.lt; have pl := hP.lt; have r0 := hP.cell (j := 0) rfl; have r1 := hP.cell (j := 1) rfl; have r2 := hP.cell (j := 2) rfl; have r3 := hP.cell (j := 3) rfl; have r4 := hP.cell (j := 4) rfl; have r5 := hP.cell (j := 5) rfl; have r6 := hP.cell (j := 6) rfl; clear hX hP; go_simp; try (with_reducible rfl))
            try simp only [Act.put, List.setIfInBounds_toArray, List.set_cons_zero, List.set_cons_succ]
            refine till_ready [10] (by kernel_rfl) (TillReady.cons 10 rfl (fun K hK => ?_) TillReady.nil)
            have pz := hX9.free 2
            have pc := hX9.cell (j := 2) rfl
            have pl := hX9.lt
            go_simp
            refine (Hid.out hK) _ _ (fun h => absurd rfl h) ?_
            refine till_done (by kernel_rfl) ?_
            refine NoPanic.normal ?_
            have HGOT := Lib.hid hgot
            have f1 := hgot.1.box.cell (j := 1) rfl
            have xl := hgot.1.box.lt
            clear hgot pz pc pl hS hX9 hP9 hN hT9 hg9 hvv9 hg79 hb8
            go_wp2
            go_tidy
            exact END.out _ _ _ HGOT.out.1 HGOT.out.2
      · have hym := List.mem_of_getElem? hy
        have hf := H.out.found hy
        rw [he] at hf
        have hd : beginS g S id groups = ((y.1.kn g, 11), S) := by
          unfold beginS
          rw [if_pos ⟨HGD.out, HRT.out⟩, hf]
        have hh := H.out.below HB2.out
        obtain ⟨lk, lcap, hle, hlkl, hlcap⟩ := row_addr hh.row (by have := (List.getElem?_eq_some_iff.1 hy).1; omega)
        cases hle
        have hkI : (k : Int) < (L.length : Int) := by have := (List.getElem?_eq_some_iff.1 hy).1; omega
        have hk0 : ¬ (k : Int) < 0 := by omega
        obtain ⟨-, -, -, y3, y4, y5, y6, yl⟩ := CellsR.of hh.row hy
        have x0 := hh.box.cell (j := 0) rfl
        have x2 := hh.box.cell (j := 2) rfl
        have xl := hh.box.lt
        have HG4 := Lib.hid (show g = 0 ∨ g = 1 ∨ g = 2 ∨ g = 3 by have := H.out.g0; omega)
        have END := Lib.hid (fun n => STAY.out _ _ hd (w2.drewN n) (HB2.out.trans ((drewN_below w2 n).mono HB2.out.size)))
        clear hy he hym hf hd hh HN H HI HI2 STAY HR HG H12 H53 H42 HRT hgx'
        rcases HG4.out with rfl | rfl | rfl | rfl
        all_goals
          go_upto_region 5 with fail
          go_quiet (fail)
          go_wp2
          go_tidy
          exact END.out _
    · have hrf : decide (Right g groups) = false := decide_eq_false hr
      rw [hrf] at H53
      have hd : beginS g S id groups = ((0, 2), S) := by unfold beginS; rw [if_neg (fun h => hr h.2)]
      have END := Lib.hid (STAY.out _ _ hd)
      clear hd hgd hr hrf
      go_enter Try.func40, Try.ntmps40
      go_wp2_with (first
        | (go_at_call 12; refine (H12.out _).mono ?_; rintro e w1 ⟨rfl, rfl⟩)
        | (go_at_call 53; refine (H53.out _ (HB0.out.alloc HB0.out.size _)).mono ?_; rintro e w5 ⟨rfl, hb5⟩; have HB5 := Lib.hid ((HB0.out.alloc HB0.out.size (.cells #[.int .i64 id.s, .int .i64 id.q] 31)).trans (hb5.mono (by simp; omega))))
        | fail)
      go_tidy
      exact END.out _ HB5.out
end
end Go.Proofs.Ytamjdghjaimihaa
