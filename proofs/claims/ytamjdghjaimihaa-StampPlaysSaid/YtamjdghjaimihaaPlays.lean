/- The walk of the law StampPlays. Conditions: each law's own. -/
import Derived.Test.YtamjdghjaimihaaLKit
import Derived.Test.YtamjdghjaimihaaOnw
namespace Go.Proofs.Ytamjdghjaimihaa
open Go.ChangeShapes Go.WideShapes Go.ChangeAt Go.RowKit

/-- The loop: m acts are done. -/
def PlaysRel (w : World) (x y : Nat) (g : Int) (n : Nat) (i : Value) (wr : World) : Prop :=
  ∃ (m : Nat) (S : QS) (M : List MemO) (v : Value) (L : List RefO) (lv : Value), m ≤ n ∧ i = .int .i64 m ∧ Two wr x y g S S M v L lv w.heap.size ∧ S.L.length ≤ m ∧ Below w.heap.size w wr
def Later (a b : World) : Prop := Below a.heap.size a b
theorem grows_later : Grows Later := ⟨fun a => Below.refl _ a, fun _ _ _ h1 h2 => Below.trans h1 (Below.mono h2 h1.size)⟩
/-- What the last region reads. -/
def PlayS (n1 n2 y : Nat) (id : IdD) (cv : Int) (W : World) : Prop :=
  W.cell? ⟨n1, 0, none⟩ = some (.int .i64 id.s) ∧ W.cell? ⟨n1, 1, none⟩ = some (.int .i64 id.q) ∧ n1 < W.heap.size ∧ W.cell? ⟨n2, 0, none⟩ = some (.int .i64 id.s) ∧ W.cell? ⟨n2, 1, none⟩ = some (.int .i64 id.q) ∧ n2 < W.heap.size ∧ W.cell? ⟨y, 1, none⟩ = some (.int .u64 cv) ∧ y < W.heap.size
set_option maxHeartbeats 8000000 in
set_option maxRecDepth 1000000 in
theorem playsWalk (gr : Int) (v : Value) (xs : List OpM) (w : World) (hg0 : 0 ≤ gr) (hg1 : gr < 256) (hx : OpsOk w v xs) :
    Calls Try.prog 7 #[.int .u8 gr, v] w fun e w' => e = .returned (.bool true) ∧ Below w.heap.size w w' := by
  refine gen fun R hR => ?_
  obtain ⟨a, cap, rfl, h1, h2, h3⟩ := _root_.id hx.row
  have H3 := Lib.hid h3
  have HX := Lib.hid hx
  have HR := Lib.hid hR
  unfold maxLen at h2
  clear h3 hx hR
  go_enter Try.func7, Try.ntmps7
  go_wp2_with (first
    | (go_at_call 9
       (with_reducible refine (c9 _).mono ?_)
       first
         | (have HBb := HB2
            rintro e w3 ⟨rfl, hb9⟩
            have HB := Lib.hid (HBb.out.trans (hb9.mono HBb.out.size))
            clear hb9)
         | (rintro e w1 ⟨rfl, hb9⟩
            have HB9 := Lib.hid hb9
            clear hb9))
    | (go_at_call 21
       refine (c21 (HX.out.keep HB9.out).row (HX.out.keep HB9.out).ok).mono ?_
       rintro e w2 ⟨b, rfl, hb2, hf⟩
       have HB2 := Lib.hid (HB9.out.trans (hb2.mono HB9.out.size))
       have HF := Lib.hid hf
       clear hb2 hf
       cases b)
    | (go_at_call 10; refine (c10 (gr % 4) _).mono ?_; rintro e w' (⟨hg, _⟩ | ⟨hg, rfl, rfl⟩); · (exfalso; omega))
    | fail)
  · go_tidy
    exact HR.out _ _ ⟨rfl, HB.out⟩
  obtain ⟨g, hgd⟩ : ∃ g, g = gr % 4 := ⟨_, rfl⟩
  rw [← hgd] at hg ⊢
  clear hgd hg0 hg1
  obtain ⟨hlen, hgrp⟩ := HF.out (by simp)
  have HGRP := Lib.hid hgrp
  have HG := Lib.hid hg
  have HLEN := Lib.hid hlen
  have hW0 : w.heap.size ≤ w2.heap.size := HB2.out.size
  go_loopw [8] (PlaysRel w w2.heap.size (w2.heap.size + 1) g xs.length) (fun i _ => xs.length - (intOf i).toNat)
  case atStart =>
    have a1 := VarAt.new w2 78 [.int .i64 g, .int .u64 0, .slice none 0 0]
    have a2 := VarAt.new (w2.alloc (.cells #[.int .i64 g, .int .u64 0, .slice none 0 0] 78)) 64 [.int .i64 g, .int .u64 0, .slice none 0 0]
    simp only [World.size_alloc] at a2
    refine ⟨0, ⟨0, []⟩, [], .slice none 0 0, [], .slice none 0 0, by omega, rfl, Two.new (a1.alloc _) a2 hg hW0 (by omega) (by omega), by simp, ?_⟩
    exact (HB2.out.alloc hW0 _).alloc (by simp; omega) _
  case round =>
    obtain ⟨m, S, M, v, L, lv, hm, rfl, hT, hSl, hb⟩ := hrel
    generalize w2.heap.size + 1 = y at *
    generalize w2.heap.size = x at *
    have HB := Lib.hid hb
    have HT := Lib.hid hT
    have HSL := Lib.hid hSl
    clear hb hT hSl HF HB2 HB9 hgrp hW0 hg
    rcases Nat.lt_or_ge m xs.length with hlt | hge
    · have hmI : (m : Int) < (xs.length : Int) := by omega
      have hm60 : (m : Int) < 60 := by omega
      obtain ⟨o, ho⟩ : ∃ o, xs[m]? = some o := ⟨xs[m], List.getElem?_eq_getElem hlt⟩
      obtain ⟨b, off, rfl, hbl, hc⟩ := H3.out (by omega)
      have hom := List.mem_of_getElem? ho
      have hok := (HX.out.ok o hom).keep (HB.out)
      have hlow := HX.out.low hom
      have hgl : o.1.groups.length ≤ 10 := HGRP.out o hom
      obtain ⟨e0, e1, e2, e3, e4, e5, hbw⟩ := opCellsAt hc hbl HB.out ho
      have hcells := fun W' (h : Below w.heap.size w W') => opCellsAt hc hbl h ho
      obtain ⟨⟨K, oid, groups, gr2, st⟩, gv⟩ := o
      obtain ⟨ga, gcap, hgv, -⟩ := _root_.id hok.1
      simp only at hgv e0 e1 e2 e3 e4 e5
      subst hgv
      have HCELLS := Lib.hid hcells
      have HOK := Lib.hid hok
      have HLOW := Lib.hid hlow
      have HGL := Lib.hid hgl
      have HLT := Lib.hid hlt
      clear hc hbl hom hok hlow hgl hlt ho hcells
      have hact := actS_ok HT.out.q.ok HG.out ⟨K, oid, groups, gr2, st⟩
      obtain ⟨S1, hS1⟩ : ∃ S1, S1 = actS g S ⟨K, oid, groups, gr2, st⟩ := ⟨_, rfl⟩
      have h22 := c22 HT.out (by have := HSL.out; have := HLEN.out; omega) HOK.out (by have := HGL.out; simp only at this ⊢; omega) HLOW.out
      simp only [← hS1] at h22
      rw [← hS1] at hact
      unfold opV at h22
      simp only at h22
      have H22 := Lib.hid h22
      have HU4 := Lib.hid (show S1.L.length ≤ m + 1 from by have := hact.2.2; have := HSL.out; omega)
      have HS1K := Lib.hid (show S1.L.length ≤ 1000 from by have := HU4.out; have := HLEN.out; omega)
      clear hact hS1 h22
      go_upto_region 10 with (first
        | (go_at_call 22
           refine H22.out.mono ?_
           rintro e w3 ⟨rfl, M2, v2, L2, lv2, hT2, hS2⟩
           have hb2 := hS2.below HT.out
           have HT2 := Lib.hid hT2
           have HB2 := Lib.hid (HB.out.trans hb2)
           clear hT2 hS2 hb2 e0 e1 e2 e3 e4 e5 hbw)
        | fail)
      obtain ⟨hml, hll⟩ := HT2.out.lens HS1K.out
      have HML := Lib.hid hml
      have HLL := Lib.hid hll
      clear hml hll
      obtain ⟨ns, nok, hnv⟩ := nextV_form g S1
      obtain ⟨nid, hnid⟩ : ∃ i, i = nextId g S1 := ⟨_, rfl⟩
      rw [← hnid] at hnv
      obtain ⟨ow, how⟩ : ∃ o, o = ownS g S1 oid := ⟨_, rfl⟩
      obtain ⟨ov, hov⟩ : ∃ o, o = ow.getD 0 := ⟨_, rfl⟩
      obtain ⟨ob, hob⟩ : ∃ o, o = ow.isSome := ⟨_, rfl⟩
      obtain ⟨sv, hsv⟩ : ∃ o, o = safeS g S1 := ⟨_, rfl⟩
      obtain ⟨cv, hcv⟩ : ∃ o, o = S1.clock := ⟨_, rfl⟩
      obtain ⟨wl, hwl⟩ : ∃ o, o = waitingS g S1 := ⟨_, rfl⟩
      have hcy := HT2.out.r.box.cell (j := 1) rfl
      have hyl := HT2.out.r.box.lt
      rw [← hcv] at hcy
      have h13 := fun W (hb : Below w3.heap.size w3 W) => c13 (HT2.out.below hb).q
      have h25 := fun W (hb : Below w3.heap.size w3 W) => c25 (HT2.out.below hb).r HLL.out
      have h26 := fun W (hb : Below w3.heap.size w3 W) => c26 (HT2.out.below hb).q oid
      have h27 := fun W (hb : Below w3.heap.size w3 W) => c27 (HT2.out.below hb).r HLL.out oid
      have h15 := fun W (hb : Below w3.heap.size w3 W) => c15 (HT2.out.below hb).q
      have h16 := fun W (hb : Below w3.heap.size w3 W) => c16 (HT2.out.below hb).q
      have h28 := fun W (hb : Below w3.heap.size w3 W) => c28 (HT2.out.below hb).r HLL.out
      have h17 := fun W (hb : Below w3.heap.size w3 W) => c17 (HT2.out.below hb).q HML.out
      have h30 := fun W (hb : Below w3.heap.size w3 W) => c30 (HT2.out.below hb).r HLL.out
      simp only [hnv] at h13 h25
      simp only [ownV, ← how, ← hov, ← hob] at h26 h27
      simp only [← hcv] at h15
      simp only [← hsv] at h16 h28
      simp only [← hwl] at h17 h30
      have H13 := Lib.hid h13
      have H25 := Lib.hid h25
      have H26 := Lib.hid h26
      have H27 := Lib.hid h27
      have H15 := Lib.hid h15
      have H16 := Lib.hid h16
      have H28 := Lib.hid h28
      have H17 := Lib.hid h17
      have H30 := Lib.hid h30
      have HCY := Lib.hid hcy
      have HYL := Lib.hid hyl
      clear h13 h25 h26 h27 h15 h16 h28 h17 h30 hnv hnid how hov hob hsv hcv hwl hcy hyl
      go_upto_region 11 with (first
        | (go_at_call 13; refine (H13.out _ (Below.refl _ _)).mono ?_; rintro e w4 ⟨rfl, hb4⟩; have HB4 := Lib.hid hb4; clear hb4)
        | fail)
      obtain ⟨n1, hn1⟩ : ∃ n, n = w4.heap.size := ⟨_, rfl⟩
      generalize hW5 : World.alloc w4 _ = W5
      have hb5 : Below w3.heap.size w3 W5 := by rw [← hW5]; exact HB4.out.alloc HB4.out.size _
      have hN1 : VarAt W5 n1 31 [.int .i64 nid.s, .int .i64 nid.q] := by rw [← hW5, hn1]; exact VarAt.new w4 31 _
      rw [← hn1]
      have HN1 := Lib.hid hN1
      have HB5 := Lib.hid hb5
      clear hW5 hn1 hN1 hb5 HB4
      go_upto_region 12 with (first
        | (go_at_call 25; refine (H25.out _ HB5.out).mono ?_; rintro e w6 ⟨rfl, hb6⟩; have HB6 := Lib.hid hb6; clear hb6)
        | fail)
      obtain ⟨n2, hn2⟩ : ∃ n, n = w6.heap.size := ⟨_, rfl⟩
      generalize hW7 : World.alloc w6 _ = W7
      have hb7 : Below W5.heap.size W5 W7 := by rw [← hW7]; exact HB6.out.alloc HB6.out.size _
      have hN2 : VarAt W7 n2 31 [.int .i64 nid.s, .int .i64 nid.q] := by rw [← hW7, hn2]; exact VarAt.new w6 31 _
      rw [← hn2]
      have HN2 := Lib.hid hN2
      have HN17 := Lib.hid (HN1.out.keep hb7 HN1.out.lt)
      have HB7 := Lib.hid (HB5.out.trans (hb7.mono HB5.out.size))
      clear hW7 hn2 hN2 hb7 HB6
      have HC7 := Lib.hid (HB2.out.trans (HB7.out.mono HB2.out.size))
      obtain ⟨e0, e1, e2, e3, e4, e5, hbw⟩ := HCELLS.out _ HC7.out
      simp only at e1 e2
      clear e0 e3 e4 e5
      go_upto_region 13 with (first
        | (go_at_call 26; refine (H26.out _ HB7.out).mono ?_; rintro e w8 ⟨rfl, hb8⟩; have HB8 := Lib.hid hb8; clear hb8)
        | fail)
      have HC8 := Lib.hid (HC7.out.trans (HB8.out.mono HC7.out.size))
      have HD8 := Lib.hid (HB7.out.trans (HB8.out.mono HB7.out.size))
      clear e1 e2 hbw
      obtain ⟨e0, e1, e2, e3, e4, e5, hbw⟩ := HCELLS.out _ HC8.out
      simp only at e1 e2
      clear e0 e3 e4 e5
      go_upto_region 14 with (first
        | (go_at_call 27; refine (H27.out _ HD8.out).mono ?_; rintro e w9 ⟨rfl, hb9⟩; have HB9 := Lib.hid hb9; clear hb9)
        | fail)
      clear e1 e2 hbw
      have hd9 := HD8.out.trans (HB9.out.mono HD8.out.size)
      have hd9' : Below w3.heap.size w3 w9.drew := hd9.trans (((Below.refl w9.heap.size w9).drew).mono hd9.size)
      have h79 : Below W7.heap.size W7 w9.drew := (HB8.out.trans (HB9.out.mono HB8.out.size)).trans (((Below.refl w9.heap.size w9).drew).mono (HB8.out.trans (HB9.out.mono HB8.out.size)).size)
      have hD : ∀ W', Later w9.drew W' → Below w3.heap.size w3 W' := fun W' h => hd9'.trans (Below.mono h hd9'.size)
      have hps : ∀ W', Later w9.drew W' → PlayS n1 n2 y nid cv W' := fun W' h => by
        have h7 : Below W7.heap.size W7 W' := h79.trans (Below.mono h h79.size)
        have k1 := HN17.out.keep h7 HN17.out.lt
        have k2 := HN2.out.keep h7 HN2.out.lt
        have k3 := hD W' h
        refine ⟨k1.cell (j := 0) rfl, k1.cell (j := 1) rfl, k1.lt, k2.cell (j := 0) rfl, k2.cell (j := 1) rfl, k2.lt, ?_, Nat.lt_of_lt_of_le HYL.out k3.size⟩
        rw [k3.cell (p := ⟨y, 1, none⟩) HYL.out]
        exact HCY.out
      have hnq : ∀ w', (binOp .neq 31 (.agg #[.int .i64 nid.s, .int .i64 nid.q]) (.agg #[.int .i64 nid.s, .int .i64 nid.q])).run Try.prog w' = .ok (.bool false) w' := fun w' => by
        have h := neq31 nid nid w'
        simpa using h
      have f15 : ∀ W', Later w9.drew W' → Calls Try.prog 15 #[.pointer (some ⟨x, 0, none⟩)] W' fun e w' => e = .returned (.int .u64 cv) ∧ Later W' w' := fun W' h => H15.out W' (hD W' h)
      have f16 : ∀ W', Later w9.drew W' → Calls Try.prog 16 #[.pointer (some ⟨x, 0, none⟩)] W' fun e w' => e = .returned (.int .u64 sv) ∧ Later W' w' := fun W' h => H16.out W' (hD W' h)
      have f28 : ∀ W', Later w9.drew W' → Calls Try.prog 28 #[.pointer (some ⟨y, 0, none⟩)] W' fun e w' => e = .returned (.int .u64 sv) ∧ Later W' w' := fun W' h => H28.out W' (hD W' h)
      have EG15 : ∀ args w, (callFunc 15 args).run Try.prog w = .ok (.enter 15 args) w := enters_of Try.func15 (by kernel_rfl) rfl
      have EG16 : ∀ args w, (callFunc 16 args).run Try.prog w = .ok (.enter 16 args) w := enters_of Try.func16 (by kernel_rfl) rfl
      have EG28 : ∀ args w, (callFunc 28 args).run Try.prog w = .ok (.enter 28 args) w := enters_of Try.func28 (by kernel_rfl) rfl
      have EG29 : ∀ args w, (callFunc 29 args).run Try.prog w = .ok (.enter 29 args) w := enters_of Try.func29 (by kernel_rfl) rfl
      have HPS := Lib.hid hps
      have HNQ := Lib.hid hnq
      have HD := Lib.hid hD
      have F15 := Lib.hid f15
      have F16 := Lib.hid f16
      have F28 := Lib.hid f28
      clear hps hnq hD f15 f16 f28 hd9 hd9' h79 HB7 HB8 HB9 HC7 HC8 HD8 HB5 HN1 HN2 HN17
      have hG := grows_later
      refine wp_region_noPanic ?_
      refine on_start Later hG (by kernel_rfl) ?_
      show OnTill _ _ _ _ _ 47 (Array.replicate 47 false) _ _
      refine on_take 0 (v := ?_) hG rfl (by kernel_rfl) (fun _ _ _ h => h) (FlowsAt.read hG.1 (by rfl) ?_) ?_
      rotate_left
      focus (intro w' hSw; obtain ⟨a0, a1, al, b0, b1, bl, y1, yl⟩ := HPS.out w' hSw; go_simp; try (with_reducible rfl))
      try simp only [Act.put, List.setIfInBounds_toArray, List.set_cons_zero, List.set_cons_succ]
      refine on_take 1 (v := ?_) hG rfl (by kernel_rfl) (fun _ _ _ h => h) (FlowsAt.read hG.1 (by rfl) ?_) ?_
      rotate_left
      focus (intro w' hSw; obtain ⟨a0, a1, al, b0, b1, bl, y1, yl⟩ := HPS.out w' hSw; go_simp; try (with_reducible rfl))
      try simp only [Act.put, List.setIfInBounds_toArray, List.set_cons_zero, List.set_cons_succ]
      refine on_take 2 (v := .bool false) hG rfl (by kernel_rfl) (fun _ _ _ h => h) (FlowsAt.read hG.1 (by rfl) ?_) ?_
      focus (intro w' hSw; clear hSw; have hnq := HNQ.out w'; go_simp; try (with_reducible rfl))
      try simp only [Act.put, List.setIfInBounds_toArray, List.set_cons_zero, List.set_cons_succ]
      refine on_take 3 (v := ?_) hG rfl (by kernel_rfl) (fun _ _ _ h => h) (FlowsAt.read hG.1 (by rfl) ?_) ?_
      rotate_left
      focus (intro w' hSw; clear hSw; go_simp; try (with_reducible rfl))
      try simp only [Act.put, List.setIfInBounds_toArray, List.set_cons_zero, List.set_cons_succ]
      refine on_take 4 (v := ?_) hG rfl (by kernel_rfl) (fun _ _ _ h => h) (FlowsAt.read hG.1 (by rfl) ?_) ?_
      rotate_left
      focus (intro w' hSw; clear hSw; go_simp; try (with_reducible rfl))
      try simp only [Act.put, List.setIfInBounds_toArray, List.set_cons_zero, List.set_cons_succ]
      refine on_take 5 (v := ?_) hG rfl (by kernel_rfl) (fun _ _ _ h => h) (FlowsAt.read hG.1 (by rfl) ?_) ?_
      rotate_left
      focus (intro w' hSw; clear hSw; go_simp; try (with_reducible rfl))
      try simp only [Act.put, List.setIfInBounds_toArray, List.set_cons_zero, List.set_cons_succ]
      refine on_take 6 (v := .bool false) hG rfl (by kernel_rfl) (fun _ _ _ h => h) (FlowsAt.read hG.1 (by rfl) ?_) ?_
      focus (intro w' hSw; clear hSw; go_simp; try (with_reducible rfl))
      try simp only [Act.put, List.setIfInBounds_toArray, List.set_cons_zero, List.set_cons_succ]
      refine on_take 7 (v := ?_) hG rfl (by kernel_rfl) (fun _ _ _ h => h) (FlowsAt.read hG.1 (by rfl) ?_) ?_
      rotate_left
      focus (intro w' hSw; clear hSw; go_simp; try (with_reducible rfl))
      try simp only [Act.put, List.setIfInBounds_toArray, List.set_cons_zero, List.set_cons_succ]
      refine on_take 8 (v := ?_) hG rfl (by kernel_rfl) (fun _ _ _ h => h) (FlowsAt.read hG.1 (by rfl) ?_) ?_
      rotate_left
      focus (intro w' hSw; clear hSw; go_simp; try (with_reducible rfl))
      try simp only [Act.put, List.setIfInBounds_toArray, List.set_cons_zero, List.set_cons_succ]
      refine on_take 9 (v := ?_) hG rfl (by kernel_rfl) (fun _ _ _ h => h) (FlowsAt.read hG.1 (by rfl) ?_) ?_
      rotate_left
      focus (intro w' hSw; clear hSw; go_simp; try (with_reducible rfl))
      try simp only [Act.put, List.setIfInBounds_toArray, List.set_cons_zero, List.set_cons_succ]
      refine on_take 10 (v := ?_) hG rfl (by kernel_rfl) (fun _ _ _ h => h) (FlowsAt.read hG.1 (by rfl) ?_) ?_
      rotate_left
      focus (intro w' hSw; clear hSw; go_simp; try (with_reducible rfl))
      try simp only [Act.put, List.setIfInBounds_toArray, List.set_cons_zero, List.set_cons_succ]
      refine on_take 11 (v := .bool false) hG rfl (by kernel_rfl) (fun _ _ _ h => h) (FlowsAt.read hG.1 (by rfl) ?_) ?_
      focus (intro w' hSw; clear hSw; go_simp; try (with_reducible rfl))
      try simp only [Act.put, List.setIfInBounds_toArray, List.set_cons_zero, List.set_cons_succ]
      refine on_take 12 (v := ?_) hG rfl (by kernel_rfl) (fun _ _ _ h => h) (FlowsAt.read hG.1 (by rfl) ?_) ?_
      rotate_left
      focus (intro w' hSw; clear hSw; go_simp; try (with_reducible rfl))
      try simp only [Act.put, List.setIfInBounds_toArray, List.set_cons_zero, List.set_cons_succ]
      refine on_take 13 (v := ?_) hG rfl (by kernel_rfl) (fun _ _ _ h => h) (FlowsAt.read hG.1 (by rfl) ?_) ?_
      rotate_left
      focus (intro w' hSw; clear hSw; go_simp; try (with_reducible rfl))
      try simp only [Act.put, List.setIfInBounds_toArray, List.set_cons_zero, List.set_cons_succ]
      refine on_take 14 (v := ?_) hG rfl (by kernel_rfl) (fun _ _ _ h => h) (FlowsAt.read hG.1 (by rfl) ?_) ?_
      rotate_left
      focus (intro w' hSw; clear hSw; go_simp; try (with_reducible rfl))
      try simp only [Act.put, List.setIfInBounds_toArray, List.set_cons_zero, List.set_cons_succ]
      refine on_take 15 (v := ?_) hG rfl (by kernel_rfl) (fun _ _ _ h => h) (FlowsAt.read hG.1 (by rfl) ?_) ?_
      rotate_left
      focus (intro w' hSw; clear hSw; go_simp; try (with_reducible rfl))
      try simp only [Act.put, List.setIfInBounds_toArray, List.set_cons_zero, List.set_cons_succ]
      refine on_take 16 (v := .bool false) hG rfl (by kernel_rfl) (fun _ _ _ h => h) (FlowsAt.read hG.1 (by rfl) ?_) ?_
      focus (intro w' hSw; clear hSw; go_simp; try (with_reducible rfl))
      try simp only [Act.put, List.setIfInBounds_toArray, List.set_cons_zero, List.set_cons_succ]
      refine on_take 17 (v := ?_) hG rfl (by kernel_rfl) (fun _ _ _ h => h) (FlowsAt.read hG.1 (by rfl) ?_) ?_
      rotate_left
      focus (intro w' hSw; clear hSw; go_simp; try (with_reducible rfl))
      try simp only [Act.put, List.setIfInBounds_toArray, List.set_cons_zero, List.set_cons_succ]
      refine on_take 18 (v := ?_) hG rfl (by kernel_rfl) (fun _ _ _ h => h) (FlowsAt.read hG.1 (by rfl) ?_) ?_
      rotate_left
      focus (intro w' hSw; clear hSw; go_simp; try (with_reducible rfl))
      try simp only [Act.put, List.setIfInBounds_toArray, List.set_cons_zero, List.set_cons_succ]
      refine on_take 19 (v := ?_) hG rfl (by kernel_rfl) (fun _ _ _ h => h) (FlowsAt.read hG.1 (by rfl) ?_) ?_
      rotate_left
      focus (intro w' hSw; clear hSw; go_simp; try (with_reducible rfl))
      try simp only [Act.put, List.setIfInBounds_toArray, List.set_cons_zero, List.set_cons_succ]
      refine on_take 20 (v := ?_) hG rfl (by kernel_rfl) (fun _ _ _ h => h) (FlowsAt.read hG.1 (by rfl) ?_) ?_
      rotate_left
      focus (intro w' hSw; clear hSw; go_simp; try (with_reducible rfl))
      try simp only [Act.put, List.setIfInBounds_toArray, List.set_cons_zero, List.set_cons_succ]
      refine on_take 21 (v := .bool false) hG rfl (by kernel_rfl) (fun _ _ _ h => h) (FlowsAt.read hG.1 (by rfl) ?_) ?_
      focus (intro w' hSw; clear hSw; go_simp; try (with_reducible rfl))
      try simp only [Act.put, List.setIfInBounds_toArray, List.set_cons_zero, List.set_cons_succ]
      refine on_take 22 (v := ?_) hG rfl (by kernel_rfl) (fun _ _ _ h => h) (FlowsAt.read hG.1 (by rfl) ?_) ?_
      rotate_left
      focus (intro w' hSw; clear hSw; go_simp; try (with_reducible rfl))
      try simp only [Act.put, List.setIfInBounds_toArray, List.set_cons_zero, List.set_cons_succ]
      refine on_take 23 (v := ?_) hG rfl (by kernel_rfl) (fun _ _ _ h => h) (FlowsAt.read hG.1 (by rfl) ?_) ?_
      rotate_left
      focus (intro w' hSw; clear hSw; go_simp; try (with_reducible rfl))
      try simp only [Act.put, List.setIfInBounds_toArray, List.set_cons_zero, List.set_cons_succ]
      refine on_take 24 (v := ?_) hG rfl (by kernel_rfl) (fun _ _ _ h => h) (FlowsAt.read hG.1 (by rfl) ?_) ?_
      rotate_left
      focus (intro w' hSw; clear hSw; go_simp; try (with_reducible rfl))
      try simp only [Act.put, List.setIfInBounds_toArray, List.set_cons_zero, List.set_cons_succ]
      refine on_take 25 (v := ?_) hG rfl (by kernel_rfl) (fun _ _ _ h => h) (FlowsAt.call (f := 15) (args := ?_) (by rfl) ?_ ?_) ?_
      rotate_left 2
      focus (intro w'; go_simp; try (with_reducible rfl))
      focus (intro w' hSw; exact F15.out w' hSw)
      try simp only [Act.put, List.setIfInBounds_toArray, List.set_cons_zero, List.set_cons_succ]
      refine on_take 26 (v := ?_) hG rfl (by kernel_rfl) (fun _ _ _ h => h) (FlowsAt.read hG.1 (by rfl) ?_) ?_
      rotate_left
      focus (intro w' hSw; clear hSw; go_simp; try (with_reducible rfl))
      try simp only [Act.put, List.setIfInBounds_toArray, List.set_cons_zero, List.set_cons_succ]
      refine on_take 27 (v := ?_) hG rfl (by kernel_rfl) (fun _ _ _ h => h) (FlowsAt.read hG.1 (by rfl) ?_) ?_
      rotate_left
      focus (intro w' hSw; obtain ⟨a0, a1, al, b0, b1, bl, y1, yl⟩ := HPS.out w' hSw; go_simp; try (with_reducible rfl))
      try simp only [Act.put, List.setIfInBounds_toArray, List.set_cons_zero, List.set_cons_succ]
      refine on_take 28 (v := ?_) hG rfl (by kernel_rfl) (fun _ _ _ h => h) (FlowsAt.read hG.1 (by rfl) ?_) ?_
      rotate_left
      focus (intro w' hSw; obtain ⟨a0, a1, al, b0, b1, bl, y1, yl⟩ := HPS.out w' hSw; go_simp; try (with_reducible rfl))
      try simp only [Act.put, List.setIfInBounds_toArray, List.set_cons_zero, List.set_cons_succ]
      refine on_take 29 (v := ?_) hG rfl (by kernel_rfl) (fun _ _ _ h => h) (FlowsAt.read hG.1 (by rfl) ?_) ?_
      rotate_left
      focus (intro w' hSw; obtain ⟨a0, a1, al, b0, b1, bl, y1, yl⟩ := HPS.out w' hSw; go_simp; try (with_reducible rfl))
      try simp only [Act.put, List.setIfInBounds_toArray, List.set_cons_zero, List.set_cons_succ]
      refine on_take 30 (v := .bool false) hG rfl (by kernel_rfl) (fun _ _ _ h => h) (FlowsAt.read hG.1 (by rfl) ?_) ?_
      focus (intro w' hSw; clear hSw; go_simp; try (with_reducible rfl))
      try simp only [Act.put, List.setIfInBounds_toArray, List.set_cons_zero, List.set_cons_succ]
      refine on_take 31 (v := ?_) hG rfl (by kernel_rfl) (fun _ _ _ h => h) (FlowsAt.read hG.1 (by rfl) ?_) ?_
      rotate_left
      focus (intro w' hSw; clear hSw; go_simp; try (with_reducible rfl))
      try simp only [Act.put, List.setIfInBounds_toArray, List.set_cons_zero, List.set_cons_succ]
      refine on_take 32 (v := ?_) hG rfl (by kernel_rfl) (fun _ _ _ h => h) (FlowsAt.read hG.1 (by rfl) ?_) ?_
      rotate_left
      focus (intro w' hSw; clear hSw; go_simp; try (with_reducible rfl))
      try simp only [Act.put, List.setIfInBounds_toArray, List.set_cons_zero, List.set_cons_succ]
      refine on_take 33 (v := ?_) hG rfl (by kernel_rfl) (fun _ _ _ h => h) (FlowsAt.read hG.1 (by rfl) ?_) ?_
      rotate_left
      focus (intro w' hSw; clear hSw; go_simp; try (with_reducible rfl))
      try simp only [Act.put, List.setIfInBounds_toArray, List.set_cons_zero, List.set_cons_succ]
      refine on_take 34 (v := ?_) hG rfl (by kernel_rfl) (fun _ _ _ h => h) (FlowsAt.call (f := 16) (args := ?_) (by rfl) ?_ ?_) ?_
      rotate_left 2
      focus (intro w'; go_simp; try (with_reducible rfl))
      focus (intro w' hSw; exact F16.out w' hSw)
      try simp only [Act.put, List.setIfInBounds_toArray, List.set_cons_zero, List.set_cons_succ]
      refine on_take 35 (v := ?_) hG rfl (by kernel_rfl) (fun _ _ _ h => h) (FlowsAt.read hG.1 (by rfl) ?_) ?_
      rotate_left
      focus (intro w' hSw; clear hSw; go_simp; try (with_reducible rfl))
      try simp only [Act.put, List.setIfInBounds_toArray, List.set_cons_zero, List.set_cons_succ]
      refine on_take 36 (v := ?_) hG rfl (by kernel_rfl) (fun _ _ _ h => h) (FlowsAt.call (f := 28) (args := ?_) (by rfl) ?_ ?_) ?_
      rotate_left 2
      focus (intro w'; go_simp; try (with_reducible rfl))
      focus (intro w' hSw; exact F28.out w' hSw)
      try simp only [Act.put, List.setIfInBounds_toArray, List.set_cons_zero, List.set_cons_succ]
      refine on_take 37 (v := .bool false) hG rfl (by kernel_rfl) (fun _ _ _ h => h) (FlowsAt.read hG.1 (by rfl) ?_) ?_
      focus (intro w' hSw; clear hSw; go_simp; try (with_reducible rfl))
      try simp only [Act.put, List.setIfInBounds_toArray, List.set_cons_zero, List.set_cons_succ]
      refine on_take 38 (v := ?_) hG rfl (by kernel_rfl) (fun _ _ _ h => h) (FlowsAt.read hG.1 (by rfl) ?_) ?_
      rotate_left
      focus (intro w' hSw; clear hSw; go_simp; try (with_reducible rfl))
      try simp only [Act.put, List.setIfInBounds_toArray, List.set_cons_zero, List.set_cons_succ]
      refine on_take 39 (v := ?_) hG rfl (by kernel_rfl) (fun _ _ _ h => h) (FlowsAt.read hG.1 (by rfl) ?_) ?_
      rotate_left
      focus (intro w' hSw; clear hSw; go_simp; try (with_reducible rfl))
      try simp only [Act.put, List.setIfInBounds_toArray, List.set_cons_zero, List.set_cons_succ]
      refine on_take 40 (v := ?_) hG rfl (by kernel_rfl) (fun _ _ _ h => h) (FlowsAt.read hG.1 (by rfl) ?_) ?_
      rotate_left
      focus (intro w' hSw; clear hSw; go_simp; try (with_reducible rfl))
      try simp only [Act.put, List.setIfInBounds_toArray, List.set_cons_zero, List.set_cons_succ]
      refine on_take 42 (v := ?_) hG rfl (by kernel_rfl) (fun _ _ _ h => h) (FlowsAt.read hG.1 (by rfl) ?_) ?_
      rotate_left
      focus (intro w' hSw; clear hSw; go_simp; try (with_reducible rfl))
      try simp only [Act.put, List.setIfInBounds_toArray, List.set_cons_zero, List.set_cons_succ]
      obtain ⟨W9, hW9⟩ : ∃ W : World, W = w9.drew := ⟨_, rfl⟩
      have hD9 : Below w3.heap.size w3 W9 := by rw [hW9]; exact HD.out _ (hG.1 _)
      rw [← hW9]
      clear hW9
      have HD9 := Lib.hid hD9
      clear hD9
      refine on_ready [41] (by kernel_rfl) fun W1 hW1 => ?_
      have hD1 : Below w3.heap.size w3 W1 := HD9.out.trans (Below.mono hW1 HD9.out.size)
      refine OnReady.cons 41 rfl (fun K hK => ?_) OnReady.nil
      go_simp
      refine (H17.out _ hD1).mono ?_
      rintro e W2 ⟨va, rfl, hra, hb2⟩
      refine (Hid.out hK) _ _ (hb2) ?_
      try simp only [Act.put, List.setIfInBounds_toArray, List.set_cons_zero, List.set_cons_succ]
      refine on_ready [43] (by kernel_rfl) fun W3 hW3 => OnReady.cons 43 rfl (fun K hK => ?_) OnReady.nil
      have hD3 : Below w3.heap.size w3 W3 := (hD1.trans (hb2.mono hD1.size)).trans (Below.mono hW3 (hD1.trans (hb2.mono hD1.size)).size)
      go_simp
      refine (H30.out _ hD3).mono ?_
      rintro e W4 ⟨vb, rfl, hrb, hb4⟩
      have hra4 := (hra.keep hW3).keep hb4
      have hD4 := hD3.trans (hb4.mono hD3.size)
      refine (Hid.out hK) _ _ (hb4) ?_
      try simp only [Act.put, List.setIfInBounds_toArray, List.set_cons_zero, List.set_cons_succ]
      have f29 : ∀ W', Later W4 W' → Calls Try.prog 29 #[va, vb] W' fun e w' => e = .returned (.bool true) ∧ Later W' w' := fun W' h => c29 (hra4.keep h) (hrb.keep h)
      refine on_take 44 (v := ?_) hG rfl (by kernel_rfl) (fun _ _ _ h => h) (FlowsAt.call (f := 29) (args := ?_) (by rfl) ?_ ?_) ?_
      rotate_left 2
      focus (intro w'; go_simp; try (with_reducible rfl))
      focus (intro w' hSw; exact f29 w' hSw)
      try simp only [Act.put, List.setIfInBounds_toArray, List.set_cons_zero, List.set_cons_succ]
      refine on_take 45 (v := ?_) hG rfl (by kernel_rfl) (fun _ _ _ h => h) (FlowsAt.read hG.1 (by rfl) ?_) ?_
      rotate_left
      focus (intro w' hSw; clear hSw; go_simp; try (with_reducible rfl))
      try simp only [Act.put, List.setIfInBounds_toArray, List.set_cons_zero, List.set_cons_succ]
      refine on_take 46 (v := ?_) hG rfl (by kernel_rfl) (fun _ _ _ h => h) (FlowsAt.read hG.1 (by rfl) ?_) ?_
      rotate_left
      focus (intro w' hSw; clear hSw; go_simp; try (with_reducible rfl))
      try simp only [Act.put, List.setIfInBounds_toArray, List.set_cons_zero, List.set_cons_succ]
      refine on_done (by kernel_rfl) fun W5 hW5 => ?_
      refine NoPanic.normal ?_
      have HD5 := Lib.hid (hD4.trans (Below.mono hW5 hD4.size))
      clear hD1 hb2 hD3 hra hrb hb4 hra4 hD4 f29 hW5 hW1 hW3
      go_wp2_with fail
      go_tidy
      refine ⟨⟨m + 1, S1, M2, v2, L2, lv2, HLT.out, rfl, HT2.out.below HD5.out, HU4.out, HB2.out.trans (HD5.out.mono HB2.out.size)⟩, by have := HLT.out; simp [intOf]; omega⟩
    · obtain rfl : m = xs.length := by omega
      go_wp2_with fail
      go_tidy
      exact HR.out _ _ ⟨rfl, HB.out⟩
/-- The law's arguments as they come in. -/
theorem playsArg (v0 v1 : Value) (w : World) (a0 : ArgAt Try.prog 5 v0 w) (a1 : ArgAt Try.prog 60 v1 w) : Calls Try.prog 7 #[v0, v1] w fun e w' => e = .returned (.bool true) ∧ Below w.heap.size w w' := by
  obtain ⟨g, rfl, hg⟩ := a0.int Try.underlying5
  obtain ⟨v, xs, hok, hv, hr⟩ := a1.slice Try.underlying60 fun _ E => opensOps E w
  simp at hv
  subst hv
  have hb : 0 ≤ g ∧ g < 256 := by
    simp [Lit.wf, IntKind.min, IntKind.max, IntKind.signed, IntKind.bits] at hg
    omega
  exact playsWalk g v1 xs w hb.1 hb.2 ⟨hr, hok⟩
end Go.Proofs.Ytamjdghjaimihaa
