/- The walk of the law StampSafe. Conditions: each law's own. -/
import Derived.Test.YtamjdghjaimihaaLKit
namespace Go.Proofs.Ytamjdghjaimihaa
open Go.ChangeShapes Go.WideShapes Go.ChangeAt Go.RowKit

/-- The first loop: m acts are done. -/
def SafeRel1 (w : World) (x y : Nat) (g : Int) (n : Nat) (i : Value) (wr : World) : Prop :=
  ∃ (m : Nat) (S : QS) (M : List MemO) (v : Value) (L : List RefO) (lv : Value), m ≤ n ∧ i = .int .i64 m ∧ Two wr x y g S S M v L lv w.heap.size ∧ S.L.length ≤ m ∧ Below w.heap.size w wr
/-- The second loop: m more are done; sv was safe. -/
def SafeRel2 (w : World) (x y : Nat) (g : Int) (n n0 : Nat) (sv : Int) (i : Value) (wr : World) : Prop :=
  ∃ (m : Nat) (S : QS) (M : List MemO) (v : Value) (L : List RefO) (lv : Value), m ≤ n ∧ i = .int .i64 m ∧ Two wr x y g S S M v L lv w.heap.size ∧ SafeOk g S sv ∧ S.L.length ≤ n0 + m ∧ Below w.heap.size w wr
set_option maxHeartbeats 8000000 in
set_option maxRecDepth 1000000 in
theorem safeWalk (gr : Int) (v u : Value) (xs ys : List OpM) (w : World) (hg0 : 0 ≤ gr) (hg1 : gr < 256) (hx : OpsOk w v xs) (hy : OpsOk w u ys) :
    Calls Try.prog 6 #[.int .u8 gr, v, u] w fun e w' => e = .returned (.bool true) ∧ Below w.heap.size w w' := by
  refine gen fun R hR => ?_
  obtain ⟨a, cap, rfl, h1, h2, h3⟩ := _root_.id hx.row
  obtain ⟨a2, cap2, rfl, h12, h22, h32⟩ := _root_.id hy.row
  have H3 := Lib.hid h3
  have H32 := Lib.hid h32
  have HX := Lib.hid hx
  have HY := Lib.hid hy
  have HR := Lib.hid hR
  unfold maxLen at h2 h22
  clear h3 h32 hx hy hR
  go_enter Try.func6, Try.ntmps6
  go_wp2_with (first
    | (go_at_call 9
       (with_reducible refine (c9 _).mono ?_)
       first
         | (have HBb := HB3
            rintro e w4 ⟨rfl, hb9⟩
            have HB := Lib.hid (HBb.out.trans (hb9.mono HBb.out.size))
            clear hb9)
         | (have HBb := HB2
            rintro e w4 ⟨rfl, hb9⟩
            have HB := Lib.hid (HBb.out.trans (hb9.mono HBb.out.size))
            clear hb9)
         | (rintro e w1 ⟨rfl, hb9⟩
            have HB9 := Lib.hid hb9
            clear hb9))
    | (go_at_call 21
       first
         | (have HBb := HB2
            refine (c21 (HY.out.keep HBb.out).row (HY.out.keep HBb.out).ok).mono ?_
            rintro e w3 ⟨b, rfl, hb3, hf⟩
            have HB3 := Lib.hid (HBb.out.trans (hb3.mono HBb.out.size))
            have HF3 := Lib.hid hf
            clear hb3 hf
            cases b)
         | (refine (c21 (HX.out.keep HB9.out).row (HX.out.keep HB9.out).ok).mono ?_
            rintro e w2 ⟨b, rfl, hb2, hf⟩
            have HB2 := Lib.hid (HB9.out.trans (hb2.mono HB9.out.size))
            have HF := Lib.hid hf
            clear hb2 hf
            cases b))
    | (go_at_call 10; refine (c10 (gr % 4) _).mono ?_; rintro e w' (⟨hg, _⟩ | ⟨hg, rfl, rfl⟩); · (exfalso; omega))
    | fail)
  · go_tidy
    exact HR.out _ _ ⟨rfl, HB.out⟩
  · go_tidy
    exact HR.out _ _ ⟨rfl, HB.out⟩
  obtain ⟨g, hgd⟩ : ∃ g, g = gr % 4 := ⟨_, rfl⟩
  rw [← hgd] at hg ⊢
  clear hgd hg0 hg1
  obtain ⟨hlen, hgrp⟩ := HF.out (by simp)
  obtain ⟨hlen2, hgrp2⟩ := HF3.out (by simp)
  have HGRP := Lib.hid hgrp
  have HGRP2 := Lib.hid hgrp2
  have HLEN := Lib.hid hlen
  have HLEN2 := Lib.hid hlen2
  have HG := Lib.hid hg
  have hW0 : w.heap.size ≤ w3.heap.size := HB3.out.size
  go_loopw [10] (SafeRel1 w w3.heap.size (w3.heap.size + 1) g xs.length) (fun i _ => xs.length - (intOf i).toNat)
  case atStart =>
    have a1 := VarAt.new w3 78 [.int .i64 g, .int .u64 0, .slice none 0 0]
    have a2 := VarAt.new (w3.alloc (.cells #[.int .i64 g, .int .u64 0, .slice none 0 0] 78)) 64 [.int .i64 g, .int .u64 0, .slice none 0 0]
    simp only [World.size_alloc] at a2
    refine ⟨0, ⟨0, []⟩, [], .slice none 0 0, [], .slice none 0 0, by omega, rfl, Two.new (a1.alloc _) a2 hg hW0 (by omega) (by omega), by simp, ?_⟩
    exact (HB3.out.alloc hW0 _).alloc (by simp; omega) _
  case round =>
    obtain ⟨m, S, M, v, L, lv, hm, rfl, hT, hSl, hb⟩ := hrel
    generalize w3.heap.size + 1 = y at *
    generalize w3.heap.size = x at *
    have HB := Lib.hid hb
    have HT := Lib.hid hT
    have HSL := Lib.hid hSl
    clear hb hT hSl HF HF3 HB2 HB3 HB9 hgrp hgrp2 hW0 hg
    rcases Nat.lt_or_ge m xs.length with hlt | hge
    · have hmI : (m : Int) < (xs.length : Int) := by omega
      have hm60 : (m : Int) < 60 := by omega
      obtain ⟨o, ho⟩ : ∃ o, xs[m]? = some o := ⟨xs[m], List.getElem?_eq_getElem hlt⟩
      obtain ⟨b, off, rfl, hbl, hc⟩ := H3.out (by omega)
      have hom := List.mem_of_getElem? ho
      have hok := (HX.out.ok o hom).keep (HB.out)
      have hlow := HX.out.low hom
      have hgl : o.1.groups.length ≤ 10 := HGRP.out o hom
      obtain ⟨e0, e1, e2, e3, e4, e5, hbw⟩ := opCellsAt hc hbl HB.out ho
      have hcells := fun W' (h : Below w.heap.size w W') => opCellsAt hc hbl h ho
      obtain ⟨⟨K, oid, groups, gr2, st⟩, gv⟩ := o
      obtain ⟨ga, gcap, hgv, -⟩ := _root_.id hok.1
      simp only at hgv e0 e1 e2 e3 e4 e5
      subst hgv
      have HCELLS := Lib.hid hcells
      have HOK := Lib.hid hok
      have HLOW := Lib.hid hlow
      have HGL := Lib.hid hgl
      have HLT := Lib.hid hlt
      clear hc hbl hom hok hlow hgl hlt ho hcells
      have hact := actS_ok HT.out.q.ok HG.out ⟨K, oid, groups, gr2, st⟩
      obtain ⟨S1, hS1⟩ : ∃ S1, S1 = actS g S ⟨K, oid, groups, gr2, st⟩ := ⟨_, rfl⟩
      have h22 := c22 HT.out (by have := HSL.out; have := HLEN.out; have := HLEN2.out; omega) HOK.out (by have := HGL.out; simp only at this ⊢; omega) HLOW.out
      simp only [← hS1] at h22
      rw [← hS1] at hact
      unfold opV at h22
      simp only at h22
      have H22 := Lib.hid h22
      have HU4 := Lib.hid hact
      clear hact hS1 h22
      go_wp2_with (first
        | (go_at_call 22
           refine H22.out.mono ?_
           rintro e w7 ⟨rfl, M2, v2, L2, lv2, hT2, hS2⟩
           have hb2 := hS2.below HT.out
           have HT2 := Lib.hid hT2
           have HB2 := Lib.hid (HB.out.trans hb2)
           clear hT2 hS2 hb2)
        | fail)
      go_tidy
      refine ⟨⟨m + 1, S1, M2, v2, L2, lv2, HLT.out, rfl, HT2.out, by have := HU4.out.2.2; have := HSL.out; omega, HB2.out⟩, by have := HLT.out; simp [intOf]; omega⟩
    · obtain rfl : m = xs.length := by omega
      obtain ⟨sv, hsv⟩ : ∃ sv, sv = safeS g S := ⟨_, rfl⟩
      have hso := safeOk HT.out.q.ok HG.out
      have h16 := c16 HT.out.q
      rw [← hsv] at h16 hso
      have H16 := Lib.hid h16
      have HSO := Lib.hid hso
      clear h16 hso hsv hlen hm
      go_wp2_with (first
        | (go_at_call 16; refine H16.out.mono ?_; rintro e w4 ⟨rfl, hb4⟩; have HB4 := Lib.hid hb4; clear hb4)
        | fail)
      go_loopw [12] (SafeRel2 w x y g ys.length xs.length sv) (fun i _ => ys.length - (intOf i).toNat)
      case atStart =>
        exact ⟨0, S, M, v, L, lv, by omega, rfl, HT.out.below HB4.out, HSO.out, by have := HSL.out; omega, HB.out.trans (HB4.out.mono HB.out.size)⟩
      case round =>
        clear HB HT HSL HSO HB4 H16
        obtain ⟨m, S, M, v, L, lv, hm, rfl, hT, hSo, hSl, hb⟩ := hrel
        have HB := Lib.hid hb
        have HT := Lib.hid hT
        have HSO := Lib.hid hSo
        have HSL := Lib.hid hSl
        clear hb hT hSl hSo
        rcases Nat.lt_or_ge m ys.length with hlt | hge
        · have hmI : (m : Int) < (ys.length : Int) := by omega
          have hm60 : (m : Int) < 60 := by omega
          obtain ⟨o, ho⟩ : ∃ o, ys[m]? = some o := ⟨ys[m], List.getElem?_eq_getElem hlt⟩
          obtain ⟨b, off, rfl, hbl, hc⟩ := H32.out (by omega)
          have hom := List.mem_of_getElem? ho
          have hok := (HY.out.ok o hom).keep (HB.out)
          have hlow := HY.out.low hom
          have hgl : o.1.groups.length ≤ 10 := HGRP2.out o hom
          obtain ⟨e0, e1, e2, e3, e4, e5, hbw⟩ := opCellsAt hc hbl HB.out ho
          have hcells := fun W' (h : Below w.heap.size w W') => opCellsAt hc hbl h ho
          obtain ⟨⟨K, oid, groups, gr2, st⟩, gv⟩ := o
          obtain ⟨ga, gcap, hgv, -⟩ := _root_.id hok.1
          simp only at hgv e0 e1 e2 e3 e4 e5
          subst hgv
          have HCELLS := Lib.hid hcells
          have HOK := Lib.hid hok
          have HLOW := Lib.hid hlow
          have HGL := Lib.hid hgl
          have HLT := Lib.hid hlt
          clear hc hbl hom hok hlow hgl hlt ho hcells
          cases hn : nextS g S with
          | none =>
            have h13 := c13 HT.out.q
            rw [hn] at h13
            unfold nextV at h13
            have H13 := Lib.hid h13
            clear h13 hn
            clear e0 e1 e2 e3 e4 e5 hbw
            go_upto_region 14 with (first
              | (go_at_call 13; refine H13.out.mono ?_; rintro e w3 ⟨rfl, hb3⟩; have HB3 := Lib.hid hb3; clear hb3)
              | fail)
            obtain ⟨n, hnS⟩ : ∃ n, n = w3.heap.size := ⟨_, rfl⟩
            generalize hW4 : World.alloc w3 _ = W4
            have hb4 : Below wr.heap.size wr W4 := by rw [← hW4]; exact HB3.out.alloc HB3.out.size _
            have hN : VarAt W4 n 31 [.int .i64 0, .int .i64 0] := by rw [← hW4, hnS]; exact VarAt.new w3 31 _
            rw [← hnS]
            have hnW : wr.heap.size ≤ n := by rw [hnS]; exact HB3.out.size
            have HN := Lib.hid hN
            have HNA := Lib.hid (HT.out.aptNew hnW)
            have HT4 := Lib.hid (HT.out.below hb4)
            have HOK4 := Lib.hid (HOK.out.keep hb4)
            have HB4 := Lib.hid (HB.out.trans (hb4.mono HB.out.size))
            clear hW4 hb4 hnS hnW hN
            obtain ⟨e0, e1, e2, e3, e4, e5, hbw⟩ := HCELLS.out _ HB4.out
            simp only at e0 e1 e2 e3 e4 e5
            by_cases hk1 : K = 1
            · subst hk1
              have hact := actS_ok HT.out.q.ok HG.out ⟨1, oid, groups, gr2, st⟩
              obtain ⟨S1, hS1⟩ : ∃ S1, S1 = actS g S ⟨1, oid, groups, gr2, st⟩ := ⟨_, rfl⟩
              have h22 := c22 HT4.out (by have := HSL.out; have := HLEN.out; have := HLEN2.out; omega) HOK4.out (by have := HGL.out; simp only at this ⊢; omega) HLOW.out
              simp only [← hS1] at h22
              rw [← hS1] at hact
              unfold opV at h22
              simp only at h22
              have H22 := Lib.hid h22
              have HU4 := Lib.hid hact
              clear hact hS1 h22
              go_wp2_with (first
                | (go_at_call 22
                   refine H22.out.mono ?_
                   rintro e w7 ⟨rfl, M2, v2, L2, lv2, hT2, hS2⟩
                   have hb2 := hS2.below HT4.out
                   have HT2 := Lib.hid hT2
                   have HB2 := Lib.hid (HB4.out.trans hb2)
                   clear hT2 hS2 hb2)
                | fail)
              go_tidy
              refine ⟨⟨m + 1, S1, M2, v2, L2, lv2, HLT.out, rfl, HT2.out, HU4.out.2.1.above HSO.out, by have := HU4.out.2.2; have := HSL.out; omega, HB2.out⟩, by have := HLT.out; simp [intOf]; omega⟩
            · by_cases hk2 : K = 2
              · subst hk2
                have hact := actS_ok HT.out.q.ok HG.out ⟨2, oid, groups, gr2, st⟩
                obtain ⟨S1, hS1⟩ : ∃ S1, S1 = actS g S ⟨2, oid, groups, gr2, st⟩ := ⟨_, rfl⟩
                have h22 := c22 HT4.out (by have := HSL.out; have := HLEN.out; have := HLEN2.out; omega) HOK4.out (by have := HGL.out; simp only at this ⊢; omega) HLOW.out
                simp only [← hS1] at h22
                rw [← hS1] at hact
                unfold opV at h22
                simp only at h22
                have H22 := Lib.hid h22
                have HU4 := Lib.hid hact
                clear hact hS1 h22
                go_wp2_with (first
                  | (go_at_call 22
                     refine H22.out.mono ?_
                     rintro e w7 ⟨rfl, M2, v2, L2, lv2, hT2, hS2⟩
                     have hb2 := hS2.below HT4.out
                     have HT2 := Lib.hid hT2
                     have HB2 := Lib.hid (HB4.out.trans hb2)
                     clear hT2 hS2 hb2)
                  | fail)
                go_tidy
                refine ⟨⟨m + 1, S1, M2, v2, L2, lv2, HLT.out, rfl, HT2.out, HU4.out.2.1.above HSO.out, by have := HU4.out.2.2; have := HSL.out; omega, HB2.out⟩, by have := HLT.out; simp [intOf]; omega⟩
              · have hk1f : (K == 1) = false := by simpa using hk1
                have hk2f : (K == 2) = false := by simpa using hk2
                clear hk1 hk2
                go_wp2_with fail
                go_tidy
                refine ⟨⟨m + 1, S, M, v, L, lv, HLT.out, rfl, HT4.out, HSO.out, by have := HSL.out; omega, HB4.out⟩, by have := HLT.out; simp [intOf]; omega⟩
          | some nx =>
            obtain ⟨nid, ns⟩ := nx
            have h13 := c13 HT.out.q
            rw [hn] at h13
            unfold nextV at h13
            simp only at h13
            obtain ⟨on, hon1, hon3, hon2, hon4, hon5, hdone⟩ := next_spec HT.out.q.ok hn
            have hact := HT.out.q.ok.doneS nid
            have hns : ¬ ns ≤ sv := by
              have h := HSO.out.2 on hon1
              have h2 : stampS g on = ns := hon2
              omega
            simp only at hdone
            obtain ⟨S3, hS3⟩ : ∃ S3, S3 = (doneS g S nid).2 := ⟨_, rfl⟩
            have hd1 : (doneS g S nid).1 = true := by rw [hdone]
            rw [← hS3] at hact
            have h14 := fun (W : World) (M : List MemO) (v : Value) (h : QAt W x g S M v w.heap.size) => c14 h nid
            rw [hd1] at h14
            simp only [← hS3] at h14
            have h24 := fun (W : World) (L : List RefO) (lv : Value) (h : RefAt W y g S L lv w.heap.size) (hl : L.length ≤ 1000) => c24 h hl nid
            simp only [← hS3] at h24
            have H13 := Lib.hid h13
            have H14 := Lib.hid h14
            have H24 := Lib.hid h24
            have HU3 := Lib.hid hact
            have HLL := Lib.hid (show L.length ≤ 1000 from (HT.out.lens (n := 1000) (by have := HSL.out; have := HLEN.out; have := HLEN2.out; omega)).2)
            clear h13 hn on hon1 hon2 hon3 hon4 hon5 hdone hact hS3 hd1 h14 h24
            clear e0 e1 e2 e3 e4 e5 hbw
            go_upto_region 14 with (first
              | (go_at_call 13; refine H13.out.mono ?_; rintro e w3 ⟨rfl, hb3⟩; have HB3 := Lib.hid hb3; clear hb3)
              | fail)
            obtain ⟨n, hnS⟩ : ∃ n, n = w3.heap.size := ⟨_, rfl⟩
            generalize hW4 : World.alloc w3 _ = W4
            have hb4 : Below wr.heap.size wr W4 := by rw [← hW4]; exact HB3.out.alloc HB3.out.size _
            have hN : VarAt W4 n 31 [.int .i64 nid.s, .int .i64 nid.q] := by rw [← hW4, hnS]; exact VarAt.new w3 31 _
            rw [← hnS]
            have hnW : wr.heap.size ≤ n := by rw [hnS]; exact HB3.out.size
            have HN := Lib.hid hN
            have HNA := Lib.hid (HT.out.aptNew hnW)
            have HT4 := Lib.hid (HT.out.below hb4)
            have HOK4 := Lib.hid (HOK.out.keep hb4)
            have HB4 := Lib.hid (HB.out.trans (hb4.mono HB.out.size))
            clear hW4 hb4 hnS hnW hN
            obtain ⟨e0, e1, e2, e3, e4, e5, hbw⟩ := HCELLS.out _ HB4.out
            simp only at e0 e1 e2 e3 e4 e5
            by_cases hk4 : K = 4
            · subst hk4
              have n0 := HN.out.cell (j := 0) rfl
              have n1 := HN.out.cell (j := 1) rfl
              have nl := HN.out.lt
              go_wp2_with (first
                | (go_at_call 14
                   refine (H14.out _ _ _ HT4.out.q).mono ?_
                   rintro e w5 ⟨rfl, M2, v2, hq2, hs2⟩
                   have hT5 := HT4.out.qstep hq2 hs2
                   have hst5 : TStep x y W4 M v L lv w5 M2 v2 L lv := hs2.two
                   have hN5 := hst5.var HN.out HNA.out
                   have n0 := hN5.cell (j := 0) rfl
                   have n1 := hN5.cell (j := 1) rfl
                   have nl := hN5.lt
                   have HT5 := Lib.hid hT5
                   have HS5 := Lib.hid hst5
                   clear hq2 hs2 hT5 hst5 hN5)
                | (go_at_call 24
                   refine (H24.out _ _ _ HT5.out.r HLL.out).mono ?_
                   rintro e w6 ⟨rfl, L3, lv3, hr3, hs3⟩
                   have hT6 := HT5.out.rstep hr3 hs3
                   have hst6 := HS5.out.trans hs3.two
                   have HT6 := Lib.hid hT6
                   have HB6 := Lib.hid (HB4.out.trans (hst6.below HT4.out))
                   clear hr3 hs3 hT6 hst6)
                | fail)
              go_tidy
              refine ⟨⟨m + 1, S3, M2, v2, L3, lv3, HLT.out, rfl, HT6.out, HU3.out.2.1.above HSO.out, by have := HU3.out.2.2; have := HSL.out; omega, HB6.out⟩, by have := HLT.out; simp [intOf]; omega⟩
            · have hk4f : (K == 4) = false := by simpa using hk4
              clear hk4
              by_cases hk1 : K = 1
              · subst hk1
                have hact := actS_ok HT.out.q.ok HG.out ⟨1, oid, groups, gr2, st⟩
                obtain ⟨S1, hS1⟩ : ∃ S1, S1 = actS g S ⟨1, oid, groups, gr2, st⟩ := ⟨_, rfl⟩
                have h22 := c22 HT4.out (by have := HSL.out; have := HLEN.out; have := HLEN2.out; omega) HOK4.out (by have := HGL.out; simp only at this ⊢; omega) HLOW.out
                simp only [← hS1] at h22
                rw [← hS1] at hact
                unfold opV at h22
                simp only at h22
                have H22 := Lib.hid h22
                have HU4 := Lib.hid hact
                clear hact hS1 h22
                go_wp2_with (first
                  | (go_at_call 22
                     refine H22.out.mono ?_
                     rintro e w7 ⟨rfl, M2, v2, L2, lv2, hT2, hS2⟩
                     have hb2 := hS2.below HT4.out
                     have HT2 := Lib.hid hT2
                     have HB2 := Lib.hid (HB4.out.trans hb2)
                     clear hT2 hS2 hb2)
                  | fail)
                go_tidy
                refine ⟨⟨m + 1, S1, M2, v2, L2, lv2, HLT.out, rfl, HT2.out, HU4.out.2.1.above HSO.out, by have := HU4.out.2.2; have := HSL.out; omega, HB2.out⟩, by have := HLT.out; simp [intOf]; omega⟩
              · by_cases hk2 : K = 2
                · subst hk2
                  have hact := actS_ok HT.out.q.ok HG.out ⟨2, oid, groups, gr2, st⟩
                  obtain ⟨S1, hS1⟩ : ∃ S1, S1 = actS g S ⟨2, oid, groups, gr2, st⟩ := ⟨_, rfl⟩
                  have h22 := c22 HT4.out (by have := HSL.out; have := HLEN.out; have := HLEN2.out; omega) HOK4.out (by have := HGL.out; simp only at this ⊢; omega) HLOW.out
                  simp only [← hS1] at h22
                  rw [← hS1] at hact
                  unfold opV at h22
                  simp only at h22
                  have H22 := Lib.hid h22
                  have HU4 := Lib.hid hact
                  clear hact hS1 h22
                  go_wp2_with (first
                    | (go_at_call 22
                       refine H22.out.mono ?_
                       rintro e w7 ⟨rfl, M2, v2, L2, lv2, hT2, hS2⟩
                       have hb2 := hS2.below HT4.out
                       have HT2 := Lib.hid hT2
                       have HB2 := Lib.hid (HB4.out.trans hb2)
                       clear hT2 hS2 hb2)
                    | fail)
                  go_tidy
                  refine ⟨⟨m + 1, S1, M2, v2, L2, lv2, HLT.out, rfl, HT2.out, HU4.out.2.1.above HSO.out, by have := HU4.out.2.2; have := HSL.out; omega, HB2.out⟩, by have := HLT.out; simp [intOf]; omega⟩
                · have hk1f : (K == 1) = false := by simpa using hk1
                  have hk2f : (K == 2) = false := by simpa using hk2
                  clear hk1 hk2
                  go_wp2_with fail
                  go_tidy
                  refine ⟨⟨m + 1, S, M, v, L, lv, HLT.out, rfl, HT4.out, HSO.out, by have := HSL.out; omega, HB4.out⟩, by have := HLT.out; simp [intOf]; omega⟩
        · obtain rfl : m = ys.length := by omega
          go_wp2_with fail
          go_tidy
          exact HR.out _ _ ⟨rfl, HB.out⟩
/-- The law's arguments as they come in. -/
theorem safeArg (v0 v1 v2 : Value) (w : World) (a0 : ArgAt Try.prog 5 v0 w) (a1 : ArgAt Try.prog 60 v1 w) (a2 : ArgAt Try.prog 60 v2 w) : Calls Try.prog 6 #[v0, v1, v2] w fun e w' => e = .returned (.bool true) ∧ Below w.heap.size w w' := by
  obtain ⟨g, rfl, hg⟩ := a0.int Try.underlying5
  obtain ⟨v, xs, hok, hv, hr⟩ := a1.slice Try.underlying60 fun _ E => opensOps E w
  obtain ⟨v', ys, hok2, hv2, hr2⟩ := a2.slice Try.underlying60 fun _ E => opensOps E w
  simp at hv hv2
  subst hv hv2
  have hb : 0 ≤ g ∧ g < 256 := by
    simp [Lit.wf, IntKind.min, IntKind.max, IntKind.signed, IntKind.bits] at hg
    omega
  exact safeWalk g v1 v2 xs ys w hb.1 hb.2 ⟨hr, hok⟩ ⟨hr2, hok2⟩
end Go.Proofs.Ytamjdghjaimihaa
