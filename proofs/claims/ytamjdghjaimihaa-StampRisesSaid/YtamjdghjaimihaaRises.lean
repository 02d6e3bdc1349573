/- The walk of the law StampRises. Conditions: each law's own. -/
import Derived.Test.YtamjdghjaimihaaLKit
namespace Go.Proofs.Ytamjdghjaimihaa
open Go.ChangeShapes Go.WideShapes Go.ChangeAt Go.RowKit

/-- The loop: m acts are done. -/
def RisesRel (w : World) (x y c : Nat) (g : Int) (n : Nat) (last clock safe i : Value) (wr : World) : Prop :=
  ∃ (m : Nat) (la ck sf : Int) (id : IdD) (S : QS) (M : List MemO) (v : Value) (L : List RefO) (lv : Value), m ≤ n ∧ last = .int .u64 la ∧ clock = .int .u64 ck ∧ safe = .int .u64 sf ∧ i = .int .i64 m ∧
    Two wr x y g S S M v L lv w.heap.size ∧ VarAt wr c 31 [.int .i64 id.s, .int .i64 id.q] ∧ Apt x y M v L lv c ∧ LastOk g S la id ∧ ck ≤ S.clock ∧ sf ≤ safeS g S ∧ S.L.length ≤ m ∧ Below w.heap.size w wr
set_option maxHeartbeats 8000000 in
set_option maxRecDepth 1000000 in
theorem risesWalk (gr : Int) (v : Value) (xs : List OpM) (w : World) (hg0 : 0 ≤ gr) (hg1 : gr < 256) (hx : OpsOk w v xs) :
    Calls Try.prog 5 #[.int .u8 gr, v] w fun e w' => e = .returned (.bool true) ∧ Below w.heap.size w w' := by
  refine gen fun R hR => ?_
  obtain ⟨a, cap, rfl, h1, h2, h3⟩ := _root_.id hx.row
  have H3 := Lib.hid h3
  have HX := Lib.hid hx
  have HR := Lib.hid hR
  unfold maxLen at h2
  clear h3 hx hR
  go_enter Try.func5, Try.ntmps5
  go_wp2_with (first
    | (go_at_call 9
       (with_reducible refine (c9 _).mono ?_)
       first
         | (have HBb := HB2
            rintro e w3 ⟨rfl, hb9⟩
            have HB := Lib.hid (HBb.out.trans (hb9.mono HBb.out.size))
            clear hb9)
         | (rintro e w1 ⟨rfl, hb9⟩
            have HB9 := Lib.hid hb9
            clear hb9))
    | (go_at_call 21
       refine (c21 (HX.out.keep HB9.out).row (HX.out.keep HB9.out).ok).mono ?_
       rintro e w2 ⟨b, rfl, hb2, hf⟩
       have HB2 := Lib.hid (HB9.out.trans (hb2.mono HB9.out.size))
       have HF := Lib.hid hf
       clear hb2 hf
       cases b)
    | (go_at_call 10; refine (c10 (gr % 4) _).mono ?_; rintro e w' (⟨hg, _⟩ | ⟨hg, rfl, rfl⟩); · (exfalso; omega))
    | fail)
  · go_tidy
    exact HR.out _ _ ⟨rfl, HB.out⟩
  obtain ⟨g, hgd⟩ : ∃ g, g = gr % 4 := ⟨_, rfl⟩
  rw [← hgd] at hg ⊢
  clear hgd hg0 hg1
  obtain ⟨hlen, hgrp⟩ := HF.out (by simp)
  have HGRP := Lib.hid hgrp
  have HG := Lib.hid hg
  have hW0 : w.heap.size ≤ w2.heap.size := HB2.out.size
  go_loopw [8, 10, 11, 12] (RisesRel w w2.heap.size (w2.heap.size + 1) (w2.heap.size + 1 + 1) g xs.length) (fun _ _ _ i _ => xs.length - (intOf i).toNat)
  case atStart =>
    have a1 := VarAt.new w2 78 [.int .i64 g, .int .u64 0, .slice none 0 0]
    have a2 := VarAt.new (w2.alloc (.cells #[.int .i64 g, .int .u64 0, .slice none 0 0] 78)) 64 [.int .i64 g, .int .u64 0, .slice none 0 0]
    have a3 := VarAt.new ((w2.alloc (.cells #[.int .i64 g, .int .u64 0, .slice none 0 0] 78)).alloc (.cells #[.int .i64 g, .int .u64 0, .slice none 0 0] 64)) 31 [.int .i64 0, .int .i64 0]
    simp only [World.size_alloc] at a2 a3
    refine ⟨0, 0, 0, 0, ⟨0, 0⟩, ⟨0, []⟩, [], .slice none 0 0, [], .slice none 0 0, by omega, rfl, rfl, rfl, rfl, Two.new ((a1.alloc _).alloc _) (a2.alloc _) hg hW0 (by omega) (by omega), a3, apt_new (by omega) (by omega), LastOk.start g _ (by simp) _, by simp, by simp [safeS, ord], by simp, ?_⟩
    exact ((HB2.out.alloc hW0 _).alloc (by simp; omega) _).alloc (by simp; omega) _
  case round =>
    obtain ⟨m, la, ck, sf, lid, S, M, v, L, lv, hm, rfl, rfl, rfl, rfl, hT, hK, hA, hL, hck, hsf, hSl, hb⟩ := hrel
    have hcl : w.heap.size ≤ w2.heap.size + 1 + 1 := by omega
    generalize w2.heap.size + 1 + 1 = c at *
    generalize w2.heap.size + 1 = y at *
    generalize w2.heap.size = x at *
    have HB := Lib.hid hb
    have HCLOW := Lib.hid hcl
    have HT := Lib.hid hT
    have HK := Lib.hid hK
    have HA := Lib.hid hA
    have HL := Lib.hid hL
    have HCK := Lib.hid hck
    have HSF := Lib.hid hsf
    have HSL := Lib.hid hSl
    clear hb hT hK hA hL hck hsf hSl HF HB2 HB9 hgrp hW0 hg hcl
    rcases Nat.lt_or_ge m xs.length with hlt | hge
    · have hmI : (m : Int) < (xs.length : Int) := by omega
      have hm60 : (m : Int) < 60 := by omega
      obtain ⟨o, ho⟩ : ∃ o, xs[m]? = some o := ⟨xs[m], List.getElem?_eq_getElem hlt⟩
      obtain ⟨b, off, rfl, hbl, hc⟩ := H3.out (by omega)
      have hom := List.mem_of_getElem? ho
      have hok := (HX.out.ok o hom).keep (HB.out)
      have hlow := HX.out.low hom
      have hgl : o.1.groups.length ≤ 10 := HGRP.out o hom
      obtain ⟨e0, e1, e2, e3, e4, e5, hbw⟩ := opCellsAt hc hbl HB.out ho
      obtain ⟨⟨K, oid, groups, gr2, st⟩, gv⟩ := o
      obtain ⟨ga, gcap, hgv, -⟩ := _root_.id hok.1
      simp only at hgv e0 e1 e2 e3 e4 e5
      subst hgv
      have HOK := Lib.hid hok
      have HLOW := Lib.hid hlow
      have HGL := Lib.hid hgl
      have HLT := Lib.hid hlt
      clear hc hbl hom hok hlow hgl hlt ho
      obtain ⟨W1, hW1⟩ : ∃ W1, W1 = wr.alloc (.cells #[.int .i64 K, .int .i64 oid.s, .int .i64 oid.q, .slice ga groups.length gcap, .int .i64 gr2, .int .u64 st] 66) := ⟨_, rfl⟩
      have hb1 : Below wr.heap.size wr W1 := by rw [hW1]; exact (Below.refl _ _).alloc (Nat.le_refl _) _
      have hP : VarAt W1 wr.heap.size 66 [.int .i64 K, .int .i64 oid.s, .int .i64 oid.q, .slice ga groups.length gcap, .int .i64 gr2, .int .u64 st] := by rw [hW1]; exact VarAt.new wr 66 _
      have HP := Lib.hid hP
      have HPA := Lib.hid HT.out.apt
      have HT1 := Lib.hid (HT.out.below hb1)
      have HK1 := Lib.hid (HK.out.keep hb1 HK.out.lt)
      have HB1 := Lib.hid (HB.out.trans (hb1.mono HB.out.size))
      have HOK1 := Lib.hid (HOK.out.keep hb1)
      have HW1 := Lib.hid hW1
      clear hW1 hb1 hP
      by_cases hk3 : K = 3
      · subst hk3
        obtain ⟨ns, nok, hnv⟩ := nextV_form g (S)
        obtain ⟨nid, hnid⟩ : ∃ i, i = nextId g (S) := ⟨_, rfl⟩
        rw [← hnid] at hnv
        have h13 := c13 HT1.out.q
        rw [hnv] at h13
        have H13 := Lib.hid h13
        clear hnv h13 hnid
        go_upto_region 13 with fail
        rw [← HW1.out]
        go_upto_region 14 with (first
          | (go_at_call 13; refine H13.out.mono ?_; rintro e w3 ⟨rfl, hb3⟩; have HB3 := Lib.hid hb3; clear hb3)
          | fail)
        generalize hW4 : World.alloc w3 _ = W4
        have hb4 : Below W1.heap.size W1 W4 := by rw [← hW4]; exact HB3.out.alloc HB3.out.size _
        have p0 := (HP.out.keep hb4 HP.out.lt).cell (j := 0) rfl
        have pl := Nat.lt_of_lt_of_le HP.out.lt hb4.size
        have HT4 := Lib.hid (HT1.out.below hb4)
        have HK4 := Lib.hid (HK1.out.keep hb4 HK1.out.lt)
        have HB4 := Lib.hid (HB1.out.trans (hb4.mono HB1.out.size))
        have HU4 := Lib.hid (show QOk g S ∧ Up g S S ∧ S.L.length ≤ S.L.length + 1 from ⟨HT.out.q.ok, Up.refl g S, Nat.le_succ _⟩)
        clear hW4 hb4
        cases nok
        · obtain ⟨cv, hcv⟩ : ∃ cv, cv = (S).clock := ⟨_, rfl⟩
          obtain ⟨sv, hsv⟩ : ∃ sv, sv = safeS g (S) := ⟨_, rfl⟩
          have k1 : ¬ cv < ck := by rw [hcv]; have := HU4.out.2.1.1; have := HCK.out; omega
          have k2 : ¬ sv < sf := by rw [hsv]; have := HU4.out.2.1.safe HT.out.q.ok HU4.out.1 HG.out; have := HSF.out; omega
          have k3 : ¬ cv < sv := by rw [hcv, hsv]; have := (safe_spec HU4.out.1 HG.out).2.1; omega
          have h15 : ∀ W', Below W4.heap.size W4 W' → Calls Try.prog 15 #[.pointer (some ⟨x, 0, none⟩)] W' fun e w' => e = .returned (.int .u64 cv) ∧ Below W4.heap.size W4 w' := fun W' hb => (c15 (HT4.out.below hb).q).mono fun e w' ⟨h1, h2⟩ => ⟨by rw [h1, hcv], hb.trans (h2.mono hb.size)⟩
          have h16 : ∀ W', Below W4.heap.size W4 W' → Calls Try.prog 16 #[.pointer (some ⟨x, 0, none⟩)] W' fun e w' => e = .returned (.int .u64 sv) ∧ Below W4.heap.size W4 w' := fun W' hb => (c16 (HT4.out.below hb).q).mono fun e w' ⟨h1, h2⟩ => ⟨by rw [h1, hsv], hb.trans (h2.mono hb.size)⟩
          have H15 := Lib.hid h15
          have H16 := Lib.hid h16
          have HCV := Lib.hid hcv
          have HSV := Lib.hid hsv
          have hbz := Below.refl W4.heap.size W4
          clear h15 h16 hcv hsv
          go_wp2_with (first
            | (go_at_call 15; refine (H15.out _ (by assumption)).mono ?_; rintro e w' ⟨rfl, hbn⟩; clear hbz; have hbz := hbn; clear hbn)
            | (go_at_call 16; refine (H16.out _ (by assumption)).mono ?_; rintro e w' ⟨rfl, hbn⟩; clear hbz; have hbz := hbn; clear hbn)
            | fail)
          go_tidy
          refine ⟨⟨m + 1, _, cv, sv, lid, S, M, v, L, lv, HLT.out, rfl, rfl, rfl, rfl, HT4.out.below hbz, HK4.out.keep hbz HK4.out.lt, HA.out, HL.out, by rw [HCV.out]; exact Int.le_refl _, by rw [HSV.out]; exact Int.le_refl _, by have := HU4.out.2.2; have := HSL.out; omega, HB4.out.trans (hbz.mono HB4.out.size)⟩, by have := HLT.out; simp [intOf]; omega⟩
        · obtain ⟨cv, hcv⟩ : ∃ cv, cv = (S).clock := ⟨_, rfl⟩
          obtain ⟨sv, hsv⟩ : ∃ sv, sv = safeS g (S) := ⟨_, rfl⟩
          have k1 : ¬ cv < ck := by rw [hcv]; have := HU4.out.2.1.1; have := HCK.out; omega
          have k2 : ¬ sv < sf := by rw [hsv]; have := HU4.out.2.1.safe HT.out.q.ok HU4.out.1 HG.out; have := HSF.out; omega
          have k3 : ¬ cv < sv := by rw [hcv, hsv]; have := (safe_spec HU4.out.1 HG.out).2.1; omega
          have h15 : ∀ W', Below W4.heap.size W4 W' → Calls Try.prog 15 #[.pointer (some ⟨x, 0, none⟩)] W' fun e w' => e = .returned (.int .u64 cv) ∧ Below W4.heap.size W4 w' := fun W' hb => (c15 (HT4.out.below hb).q).mono fun e w' ⟨h1, h2⟩ => ⟨by rw [h1, hcv], hb.trans (h2.mono hb.size)⟩
          have h16 : ∀ W', Below W4.heap.size W4 W' → Calls Try.prog 16 #[.pointer (some ⟨x, 0, none⟩)] W' fun e w' => e = .returned (.int .u64 sv) ∧ Below W4.heap.size W4 w' := fun W' hb => (c16 (HT4.out.below hb).q).mono fun e w' ⟨h1, h2⟩ => ⟨by rw [h1, hsv], hb.trans (h2.mono hb.size)⟩
          have H15 := Lib.hid h15
          have H16 := Lib.hid h16
          have HCV := Lib.hid hcv
          have HSV := Lib.hid hsv
          have hbz := Below.refl W4.heap.size W4
          clear h15 h16 hcv hsv
          go_wp2_with (first
            | (go_at_call 15; refine (H15.out _ (by assumption)).mono ?_; rintro e w' ⟨rfl, hbn⟩; clear hbz; have hbz := hbn; clear hbn)
            | (go_at_call 16; refine (H16.out _ (by assumption)).mono ?_; rintro e w' ⟨rfl, hbn⟩; clear hbz; have hbz := hbn; clear hbn)
            | fail)
          go_tidy
          refine ⟨⟨m + 1, _, cv, sv, lid, S, M, v, L, lv, HLT.out, rfl, rfl, rfl, rfl, HT4.out.below hbz, HK4.out.keep hbz HK4.out.lt, HA.out, HL.out, by rw [HCV.out]; exact Int.le_refl _, by rw [HSV.out]; exact Int.le_refl _, by have := HU4.out.2.2; have := HSL.out; omega, HB4.out.trans (hbz.mono HB4.out.size)⟩, by have := HLT.out; simp [intOf]; omega⟩
      · by_cases hk4 : K = 4
        · subst hk4
          cases hn : nextS g S with
          | none =>
            have h13 := c13 HT1.out.q
            rw [hn] at h13
            unfold nextV at h13
            have H13 := Lib.hid h13
            clear h13 hn
            go_upto_region 13 with fail
            rw [← HW1.out]
            go_upto_region 14 with (first
              | (go_at_call 13; refine H13.out.mono ?_; rintro e w3 ⟨rfl, hb3⟩; have HB3 := Lib.hid hb3; clear hb3)
              | fail)
            generalize hW4 : World.alloc w3 _ = W4
            have hb4 : Below W1.heap.size W1 W4 := by rw [← hW4]; exact HB3.out.alloc HB3.out.size _
            have HT4 := Lib.hid (HT1.out.below hb4)
            have HK4 := Lib.hid (HK1.out.keep hb4 HK1.out.lt)
            have HB4 := Lib.hid (HB1.out.trans (hb4.mono HB1.out.size))
            have HU4 := Lib.hid (show QOk g S ∧ Up g S S ∧ S.L.length ≤ S.L.length + 1 from ⟨HT.out.q.ok, Up.refl g S, Nat.le_succ _⟩)
            clear hW4 hb4
            obtain ⟨cv, hcv⟩ : ∃ cv, cv = (S).clock := ⟨_, rfl⟩
            obtain ⟨sv, hsv⟩ : ∃ sv, sv = safeS g (S) := ⟨_, rfl⟩
            have k1 : ¬ cv < ck := by rw [hcv]; have := HU4.out.2.1.1; have := HCK.out; omega
            have k2 : ¬ sv < sf := by rw [hsv]; have := HU4.out.2.1.safe HT.out.q.ok HU4.out.1 HG.out; have := HSF.out; omega
            have k3 : ¬ cv < sv := by rw [hcv, hsv]; have := (safe_spec HU4.out.1 HG.out).2.1; omega
            have h15 : ∀ W', Below W4.heap.size W4 W' → Calls Try.prog 15 #[.pointer (some ⟨x, 0, none⟩)] W' fun e w' => e = .returned (.int .u64 cv) ∧ Below W4.heap.size W4 w' := fun W' hb => (c15 (HT4.out.below hb).q).mono fun e w' ⟨h1, h2⟩ => ⟨by rw [h1, hcv], hb.trans (h2.mono hb.size)⟩
            have h16 : ∀ W', Below W4.heap.size W4 W' → Calls Try.prog 16 #[.pointer (some ⟨x, 0, none⟩)] W' fun e w' => e = .returned (.int .u64 sv) ∧ Below W4.heap.size W4 w' := fun W' hb => (c16 (HT4.out.below hb).q).mono fun e w' ⟨h1, h2⟩ => ⟨by rw [h1, hsv], hb.trans (h2.mono hb.size)⟩
            have H15 := Lib.hid h15
            have H16 := Lib.hid h16
            have HCV := Lib.hid hcv
            have HSV := Lib.hid hsv
            have hbz := Below.refl W4.heap.size W4
            clear h15 h16 hcv hsv
            go_wp2_with (first
              | (go_at_call 15; refine (H15.out _ (by assumption)).mono ?_; rintro e w' ⟨rfl, hbn⟩; clear hbz; have hbz := hbn; clear hbn)
              | (go_at_call 16; refine (H16.out _ (by assumption)).mono ?_; rintro e w' ⟨rfl, hbn⟩; clear hbz; have hbz := hbn; clear hbn)
              | fail)
            go_tidy
            refine ⟨⟨m + 1, _, cv, sv, lid, S, M, v, L, lv, HLT.out, rfl, rfl, rfl, rfl, HT4.out.below hbz, HK4.out.keep hbz HK4.out.lt, HA.out, HL.out, by rw [HCV.out]; exact Int.le_refl _, by rw [HSV.out]; exact Int.le_refl _, by have := HU4.out.2.2; have := HSL.out; omega, HB4.out.trans (hbz.mono HB4.out.size)⟩, by have := HLT.out; simp [intOf]; omega⟩
          | some nx =>
            obtain ⟨nid, ns⟩ := nx
            have h13 := c13 HT1.out.q
            rw [hn] at h13
            unfold nextV at h13
            simp only at h13
            obtain ⟨hlt2, heq2, hlast2⟩ := last_next HT.out.q.ok hn HL.out
            obtain ⟨on, hon1, hon2, hon3, hon4, hon5, hdone⟩ := next_spec HT.out.q.ok hn
            have hact := HT.out.q.ok.doneS nid
            simp only at hlt2 heq2 hlast2 hdone
            obtain ⟨S2, hS2⟩ : ∃ S2, S2 = (doneS g S nid).2 := ⟨_, rfl⟩
            have hd1 : (doneS g S nid).1 = true := by rw [hdone]
            rw [← hS2] at hlast2 hact
            have h14 := fun (W : World) (M : List MemO) (v : Value) (h : QAt W x g S M v w.heap.size) => c14 h nid
            rw [hd1] at h14
            simp only [← hS2] at h14
            have h24 := fun (W : World) (L : List RefO) (lv : Value) (h : RefAt W y g S L lv w.heap.size) (hl : L.length ≤ 1000) => c24 h hl nid
            simp only [← hS2] at h24
            have H13 := Lib.hid h13
            have H14 := Lib.hid h14
            have H24 := Lib.hid h24
            have HL4 := Lib.hid hlast2
            have HEQ := Lib.hid heq2
            have HU4 := Lib.hid (show QOk g S2 ∧ Up g S S2 ∧ S2.L.length ≤ S.L.length + 1 from ⟨hact.1, hact.2.1, Nat.le_succ_of_le hact.2.2⟩)
            have h23 := c23 lid nid
            have H23 := Lib.hid h23
            have HLL := Lib.hid (show L.length ≤ 1000 from (HT.out.lens (n := 1000) (by have := HSL.out; omega)).2)
            clear h13 hn hlast2 heq2 on hon1 hon2 hon3 hon4 hon5 hdone hact hS2 hd1 h14 h24 h23
            go_upto_region 13 with fail
            rw [← HW1.out]
            go_upto_region 14 with (first
              | (go_at_call 13; refine H13.out.mono ?_; rintro e w3 ⟨rfl, hb3⟩; have HB3 := Lib.hid hb3; clear hb3)
              | fail)
            obtain ⟨n, hnS⟩ : ∃ n, n = w3.heap.size := ⟨_, rfl⟩
            generalize hW4 : World.alloc w3 _ = W4
            have hb4 : Below W1.heap.size W1 W4 := by rw [← hW4]; exact HB3.out.alloc HB3.out.size _
            have hN : VarAt W4 n 31 [.int .i64 nid.s, .int .i64 nid.q] := by rw [← hW4, hnS]; exact VarAt.new w3 31 _
            rw [← hnS]
            have hnW : W1.heap.size ≤ n := by rw [hnS]; exact HB3.out.size
            have p0 := (HP.out.keep hb4 HP.out.lt).cell (j := 0) rfl
            have pl := Nat.lt_of_lt_of_le HP.out.lt hb4.size
            have HN := Lib.hid hN
            have HNA := Lib.hid (HT1.out.aptNew hnW)
            have HNC := Lib.hid (show c ≠ n from fun e => by have := HK1.out.lt; omega)
            have HT4 := Lib.hid (HT1.out.below hb4)
            have HK4 := Lib.hid (HK1.out.keep hb4 HK1.out.lt)
            have HB4 := Lib.hid (HB1.out.trans (hb4.mono HB1.out.size))
            clear hW4 hb4 hnS hnW
            go_upto_region 15 with fail
            clear p0 pl
            have n0 := hN.cell (j := 0) rfl
            have n1 := hN.cell (j := 1) rfl
            have nl := hN.lt
            have c0 := HK4.out.cell (j := 0) rfl
            have c1 := HK4.out.cell (j := 1) rfl
            have cl := HK4.out.lt
            clear hN
            by_cases he : ns = la
            · subst he
              by_cases hp : 0 < ns
              · have hls := HEQ.out rfl hp
                rw [hls] at H23
                clear hls
                go_upto_region 20 with (first
                  | (go_at_call 23; refine (H23.out _).mono ?_; rintro e w7 ⟨rfl, hb7⟩; have HB7 := Lib.hid hb7; have n0 := (HN.out.keep hb7 HN.out.lt).cell (j := 0) rfl; have n1 := (HN.out.keep hb7 HN.out.lt).cell (j := 1) rfl; have nl := Nat.lt_of_lt_of_le HN.out.lt hb7.size; clear hb7)
                  | (go_at_call 14
                     refine (H14.out _ _ _ (HT4.out.below HB7.out).q).mono ?_
                     rintro e w5 ⟨rfl, M2, v2, hq2, hs2⟩
                     have hT5 := (HT4.out.below HB7.out).qstep hq2 hs2
                     have hst5 : TStep x y w7 M v L lv w5 M2 v2 L lv := hs2.two
                     have hN5 := hst5.var (HN.out.keep HB7.out HN.out.lt) HNA.out
                     have n0 := hN5.cell (j := 0) rfl
                     have n1 := hN5.cell (j := 1) rfl
                     have nl := hN5.lt
                     have HT5 := Lib.hid hT5
                     have HS5 := Lib.hid hst5
                     have HN5 := Lib.hid hN5
                     clear hq2 hs2 hT5 hst5 hN5)
                  | (go_at_call 24
                     refine (H24.out _ _ _ HT5.out.r HLL.out).mono ?_
                     rintro e w6 ⟨rfl, L3, lv3, hr3, hs3⟩
                     have hT6 := HT5.out.rstep hr3 hs3
                     have hst6 := HS5.out.trans hs3.two
                     have hN6 := hst6.var (HN.out.keep HB7.out HN.out.lt) HNA.out
                     have hK6 := hst6.var (HK4.out.keep HB7.out HK4.out.lt) HA.out
                     have n0 := hN6.cell (j := 0) rfl
                     have n1 := hN6.cell (j := 1) rfl
                     have nl := hN6.lt
                     have c0 := hK6.cell (j := 0) rfl
                     have c1 := hK6.cell (j := 1) rfl
                     have f0 := hK6.free 0
                     have f1 := hK6.free 1
                     have cl := hK6.lt
                     have HT6 := Lib.hid hT6
                     have HS6 := Lib.hid hst6
                     have HK6 := Lib.hid hK6
                     clear hr3 hs3 hT6 hst6 hN6 hK6)
                  | fail)
                generalize hW8 : World.setCell (World.setCell w6 _ _) _ _ = W8
                have hK8 : VarAt W8 c 31 [.int .i64 nid.s, .int .i64 nid.q] := by rw [← hW8]; exact (HK6.out.set 0 _).set 1 _
                have hap := HS6.out.apt (((HK4.out.keep HB7.out HK4.out.lt)).lt) HA.out
                have hs8 : W8.heap.size = w6.heap.size := by rw [← hW8]; simp
                have hk8 : ∀ k, k ≠ c → W8.heap[k]? = w6.heap[k]? := fun k hk => by rw [← hW8, Below.heap_setCell _ _ _ k (by simpa using hk), Below.heap_setCell _ _ _ k (by simpa using hk)]
                have hT8 : Two W8 x y g S2 S2 M2 v2 L3 lv3 w.heap.size := HT6.out.elsewhere hap (Nat.le_of_eq hs8.symm) hk8
                have hB8 : Below w.heap.size w W8 := by
                  rw [← hW8]
                  exact ((((HB4.out.trans (HB7.out.mono HB4.out.size)).trans (HS6.out.below (HT4.out.below HB7.out))).setCell (HCLOW.out) _).setCell (HCLOW.out) _)
                have HT8 := Lib.hid hT8
                have HB8 := Lib.hid hB8
                have HK8 := Lib.hid hK8
                have HA8 := Lib.hid hap
                clear hW8 hK8 hap hs8 hk8 hT8 hB8 n0 n1 nl c0 c1 f0 f1 cl
                obtain ⟨cv, hcv⟩ : ∃ cv, cv = (S2).clock := ⟨_, rfl⟩
                obtain ⟨sv, hsv⟩ : ∃ sv, sv = safeS g (S2) := ⟨_, rfl⟩
                have k1 : ¬ cv < ck := by rw [hcv]; have := HU4.out.2.1.1; have := HCK.out; omega
                have k2 : ¬ sv < sf := by rw [hsv]; have := HU4.out.2.1.safe HT.out.q.ok HU4.out.1 HG.out; have := HSF.out; omega
                have k3 : ¬ cv < sv := by rw [hcv, hsv]; have := (safe_spec HU4.out.1 HG.out).2.1; omega
                have h15 : ∀ W', Below W8.heap.size W8 W' → Calls Try.prog 15 #[.pointer (some ⟨x, 0, none⟩)] W' fun e w' => e = .returned (.int .u64 cv) ∧ Below W8.heap.size W8 w' := fun W' hb => (c15 (HT8.out.below hb).q).mono fun e w' ⟨h1, h2⟩ => ⟨by rw [h1, hcv], hb.trans (h2.mono hb.size)⟩
                have h16 : ∀ W', Below W8.heap.size W8 W' → Calls Try.prog 16 #[.pointer (some ⟨x, 0, none⟩)] W' fun e w' => e = .returned (.int .u64 sv) ∧ Below W8.heap.size W8 w' := fun W' hb => (c16 (HT8.out.below hb).q).mono fun e w' ⟨h1, h2⟩ => ⟨by rw [h1, hsv], hb.trans (h2.mono hb.size)⟩
                have H15 := Lib.hid h15
                have H16 := Lib.hid h16
                have HCV := Lib.hid hcv
                have HSV := Lib.hid hsv
                have hbz := Below.refl W8.heap.size W8
                clear h15 h16 hcv hsv
                go_wp2_with (first
                  | (go_at_call 15; refine (H15.out _ (by assumption)).mono ?_; rintro e w' ⟨rfl, hbn⟩; clear hbz; have hbz := hbn; clear hbn)
                  | (go_at_call 16; refine (H16.out _ (by assumption)).mono ?_; rintro e w' ⟨rfl, hbn⟩; clear hbz; have hbz := hbn; clear hbn)
                  | fail)
                go_tidy
                refine ⟨⟨m + 1, _, cv, sv, nid, S2, M2, v2, L3, lv3, HLT.out, rfl, rfl, rfl, rfl, HT8.out.below hbz, HK8.out.keep hbz HK8.out.lt, HA8.out, HL4.out, by rw [HCV.out]; exact Int.le_refl _, by rw [HSV.out]; exact Int.le_refl _, by have := HU4.out.2.2; have := HSL.out; omega, HB8.out.trans (hbz.mono HB8.out.size)⟩, by have := HLT.out; simp [intOf]; omega⟩
              · clear H23 HEQ
                go_upto_region 20 with (first
                  | (go_at_call 14
                     refine (H14.out _ _ _ HT4.out.q).mono ?_
                     rintro e w5 ⟨rfl, M2, v2, hq2, hs2⟩
                     have hT5 := HT4.out.qstep hq2 hs2
                     have hst5 : TStep x y W4 M v L lv w5 M2 v2 L lv := hs2.two
                     have hN5 := hst5.var HN.out HNA.out
                     have n0 := hN5.cell (j := 0) rfl
                     have n1 := hN5.cell (j := 1) rfl
                     have nl := hN5.lt
                     have HT5 := Lib.hid hT5
                     have HS5 := Lib.hid hst5
                     have HN5 := Lib.hid hN5
                     clear hq2 hs2 hT5 hst5 hN5)
                  | (go_at_call 24
                     refine (H24.out _ _ _ HT5.out.r HLL.out).mono ?_
                     rintro e w6 ⟨rfl, L3, lv3, hr3, hs3⟩
                     have hT6 := HT5.out.rstep hr3 hs3
                     have hst6 := HS5.out.trans hs3.two
                     have hN6 := hst6.var HN.out HNA.out
                     have hK6 := hst6.var HK4.out HA.out
                     have n0 := hN6.cell (j := 0) rfl
                     have n1 := hN6.cell (j := 1) rfl
                     have nl := hN6.lt
                     have c0 := hK6.cell (j := 0) rfl
                     have c1 := hK6.cell (j := 1) rfl
                     have f0 := hK6.free 0
                     have f1 := hK6.free 1
                     have cl := hK6.lt
                     have HT6 := Lib.hid hT6
                     have HS6 := Lib.hid hst6
                     have HK6 := Lib.hid hK6
                     clear hr3 hs3 hT6 hst6 hN6 hK6)
                  | fail)
                generalize hW8 : World.setCell (World.setCell w6 _ _) _ _ = W8
                have hK8 : VarAt W8 c 31 [.int .i64 nid.s, .int .i64 nid.q] := by rw [← hW8]; exact (HK6.out.set 0 _).set 1 _
                have hap := HS6.out.apt ((HK4.out).lt) HA.out
                have hs8 : W8.heap.size = w6.heap.size := by rw [← hW8]; simp
                have hk8 : ∀ k, k ≠ c → W8.heap[k]? = w6.heap[k]? := fun k hk => by rw [← hW8, Below.heap_setCell _ _ _ k (by simpa using hk), Below.heap_setCell _ _ _ k (by simpa using hk)]
                have hT8 : Two W8 x y g S2 S2 M2 v2 L3 lv3 w.heap.size := HT6.out.elsewhere hap (Nat.le_of_eq hs8.symm) hk8
                have hB8 : Below w.heap.size w W8 := by
                  rw [← hW8]
                  exact (((HB4.out.trans (HS6.out.below HT4.out)).setCell (HCLOW.out) _).setCell (HCLOW.out) _)
                have HT8 := Lib.hid hT8
                have HB8 := Lib.hid hB8
                have HK8 := Lib.hid hK8
                have HA8 := Lib.hid hap
                clear hW8 hK8 hap hs8 hk8 hT8 hB8 n0 n1 nl c0 c1 f0 f1 cl
                obtain ⟨cv, hcv⟩ : ∃ cv, cv = (S2).clock := ⟨_, rfl⟩
                obtain ⟨sv, hsv⟩ : ∃ sv, sv = safeS g (S2) := ⟨_, rfl⟩
                have k1 : ¬ cv < ck := by rw [hcv]; have := HU4.out.2.1.1; have := HCK.out; omega
                have k2 : ¬ sv < sf := by rw [hsv]; have := HU4.out.2.1.safe HT.out.q.ok HU4.out.1 HG.out; have := HSF.out; omega
                have k3 : ¬ cv < sv := by rw [hcv, hsv]; have := (safe_spec HU4.out.1 HG.out).2.1; omega
                have h15 : ∀ W', Below W8.heap.size W8 W' → Calls Try.prog 15 #[.pointer (some ⟨x, 0, none⟩)] W' fun e w' => e = .returned (.int .u64 cv) ∧ Below W8.heap.size W8 w' := fun W' hb => (c15 (HT8.out.below hb).q).mono fun e w' ⟨h1, h2⟩ => ⟨by rw [h1, hcv], hb.trans (h2.mono hb.size)⟩
                have h16 : ∀ W', Below W8.heap.size W8 W' → Calls Try.prog 16 #[.pointer (some ⟨x, 0, none⟩)] W' fun e w' => e = .returned (.int .u64 sv) ∧ Below W8.heap.size W8 w' := fun W' hb => (c16 (HT8.out.below hb).q).mono fun e w' ⟨h1, h2⟩ => ⟨by rw [h1, hsv], hb.trans (h2.mono hb.size)⟩
                have H15 := Lib.hid h15
                have H16 := Lib.hid h16
                have HCV := Lib.hid hcv
                have HSV := Lib.hid hsv
                have hbz := Below.refl W8.heap.size W8
                clear h15 h16 hcv hsv
                go_wp2_with (first
                  | (go_at_call 15; refine (H15.out _ (by assumption)).mono ?_; rintro e w' ⟨rfl, hbn⟩; clear hbz; have hbz := hbn; clear hbn)
                  | (go_at_call 16; refine (H16.out _ (by assumption)).mono ?_; rintro e w' ⟨rfl, hbn⟩; clear hbz; have hbz := hbn; clear hbn)
                  | fail)
                go_tidy
                refine ⟨⟨m + 1, _, cv, sv, nid, S2, M2, v2, L3, lv3, HLT.out, rfl, rfl, rfl, rfl, HT8.out.below hbz, HK8.out.keep hbz HK8.out.lt, HA8.out, HL4.out, by rw [HCV.out]; exact Int.le_refl _, by rw [HSV.out]; exact Int.le_refl _, by have := HU4.out.2.2; have := HSL.out; omega, HB8.out.trans (hbz.mono HB8.out.size)⟩, by have := HLT.out; simp [intOf]; omega⟩
            · clear H23 HEQ
              go_upto_region 20 with (first
                | (go_at_call 14
                   refine (H14.out _ _ _ HT4.out.q).mono ?_
                   rintro e w5 ⟨rfl, M2, v2, hq2, hs2⟩
                   have hT5 := HT4.out.qstep hq2 hs2
                   have hst5 : TStep x y W4 M v L lv w5 M2 v2 L lv := hs2.two
                   have hN5 := hst5.var HN.out HNA.out
                   have n0 := hN5.cell (j := 0) rfl
                   have n1 := hN5.cell (j := 1) rfl
                   have nl := hN5.lt
                   have HT5 := Lib.hid hT5
                   have HS5 := Lib.hid hst5
                   have HN5 := Lib.hid hN5
                   clear hq2 hs2 hT5 hst5 hN5)
                | (go_at_call 24
                   refine (H24.out _ _ _ HT5.out.r HLL.out).mono ?_
                   rintro e w6 ⟨rfl, L3, lv3, hr3, hs3⟩
                   have hT6 := HT5.out.rstep hr3 hs3
                   have hst6 := HS5.out.trans hs3.two
                   have hN6 := hst6.var HN.out HNA.out
                   have hK6 := hst6.var HK4.out HA.out
                   have n0 := hN6.cell (j := 0) rfl
                   have n1 := hN6.cell (j := 1) rfl
                   have nl := hN6.lt
                   have c0 := hK6.cell (j := 0) rfl
                   have c1 := hK6.cell (j := 1) rfl
                   have f0 := hK6.free 0
                   have f1 := hK6.free 1
                   have cl := hK6.lt
                   have HT6 := Lib.hid hT6
                   have HS6 := Lib.hid hst6
                   have HK6 := Lib.hid hK6
                   clear hr3 hs3 hT6 hst6 hN6 hK6)
                | fail)
              generalize hW8 : World.setCell (World.setCell w6 _ _) _ _ = W8
              have hK8 : VarAt W8 c 31 [.int .i64 nid.s, .int .i64 nid.q] := by rw [← hW8]; exact (HK6.out.set 0 _).set 1 _
              have hap := HS6.out.apt ((HK4.out).lt) HA.out
              have hs8 : W8.heap.size = w6.heap.size := by rw [← hW8]; simp
              have hk8 : ∀ k, k ≠ c → W8.heap[k]? = w6.heap[k]? := fun k hk => by rw [← hW8, Below.heap_setCell _ _ _ k (by simpa using hk), Below.heap_setCell _ _ _ k (by simpa using hk)]
              have hT8 : Two W8 x y g S2 S2 M2 v2 L3 lv3 w.heap.size := HT6.out.elsewhere hap (Nat.le_of_eq hs8.symm) hk8
              have hB8 : Below w.heap.size w W8 := by
                rw [← hW8]
                exact (((HB4.out.trans (HS6.out.below HT4.out)).setCell (HCLOW.out) _).setCell (HCLOW.out) _)
              have HT8 := Lib.hid hT8
              have HB8 := Lib.hid hB8
              have HK8 := Lib.hid hK8
              have HA8 := Lib.hid hap
              clear hW8 hK8 hap hs8 hk8 hT8 hB8 n0 n1 nl c0 c1 f0 f1 cl
              obtain ⟨cv, hcv⟩ : ∃ cv, cv = (S2).clock := ⟨_, rfl⟩
              obtain ⟨sv, hsv⟩ : ∃ sv, sv = safeS g (S2) := ⟨_, rfl⟩
              have k1 : ¬ cv < ck := by rw [hcv]; have := HU4.out.2.1.1; have := HCK.out; omega
              have k2 : ¬ sv < sf := by rw [hsv]; have := HU4.out.2.1.safe HT.out.q.ok HU4.out.1 HG.out; have := HSF.out; omega
              have k3 : ¬ cv < sv := by rw [hcv, hsv]; have := (safe_spec HU4.out.1 HG.out).2.1; omega
              have h15 : ∀ W', Below W8.heap.size W8 W' → Calls Try.prog 15 #[.pointer (some ⟨x, 0, none⟩)] W' fun e w' => e = .returned (.int .u64 cv) ∧ Below W8.heap.size W8 w' := fun W' hb => (c15 (HT8.out.below hb).q).mono fun e w' ⟨h1, h2⟩ => ⟨by rw [h1, hcv], hb.trans (h2.mono hb.size)⟩
              have h16 : ∀ W', Below W8.heap.size W8 W' → Calls Try.prog 16 #[.pointer (some ⟨x, 0, none⟩)] W' fun e w' => e = .returned (.int .u64 sv) ∧ Below W8.heap.size W8 w' := fun W' hb => (c16 (HT8.out.below hb).q).mono fun e w' ⟨h1, h2⟩ => ⟨by rw [h1, hsv], hb.trans (h2.mono hb.size)⟩
              have H15 := Lib.hid h15
              have H16 := Lib.hid h16
              have HCV := Lib.hid hcv
              have HSV := Lib.hid hsv
              have hbz := Below.refl W8.heap.size W8
              clear h15 h16 hcv hsv
              go_wp2_with (first
                | (go_at_call 15; refine (H15.out _ (by assumption)).mono ?_; rintro e w' ⟨rfl, hbn⟩; clear hbz; have hbz := hbn; clear hbn)
                | (go_at_call 16; refine (H16.out _ (by assumption)).mono ?_; rintro e w' ⟨rfl, hbn⟩; clear hbz; have hbz := hbn; clear hbn)
                | fail)
              go_tidy
              refine ⟨⟨m + 1, _, cv, sv, nid, S2, M2, v2, L3, lv3, HLT.out, rfl, rfl, rfl, rfl, HT8.out.below hbz, HK8.out.keep hbz HK8.out.lt, HA8.out, HL4.out, by rw [HCV.out]; exact Int.le_refl _, by rw [HSV.out]; exact Int.le_refl _, by have := HU4.out.2.2; have := HSL.out; omega, HB8.out.trans (hbz.mono HB8.out.size)⟩, by have := HLT.out; simp [intOf]; omega⟩
        · have hk3f : (K != 3) = true := by simpa using hk3
          have hk4f : (K != 4) = true := by simpa using hk4
          have hk4g : (K == 4) = false := by simpa using hk4
          have hact := actS_ok HT.out.q.ok HG.out ⟨K, oid, groups, gr2, st⟩
          obtain ⟨S1, hS1⟩ : ∃ S1, S1 = actS g S ⟨K, oid, groups, gr2, st⟩ := ⟨_, rfl⟩
          have h22 := c22 HT1.out (by have := HSL.out; omega) HOK1.out (by have := HGL.out; simp only at this ⊢; omega) HLOW.out
          simp only [← hS1] at h22
          rw [← hS1] at hact
          unfold opV at h22
          simp only at h22
          have H22 := Lib.hid h22
          have HU4 := Lib.hid hact
          clear hact hS1 h22
          go_upto_region 12 with fail
          rw [← HW1.out]
          have p0 := HP.out.cell (j := 0) rfl
          have p1 := HP.out.cell (j := 1) rfl
          have p2 := HP.out.cell (j := 2) rfl
          have p3 := HP.out.cell (j := 3) rfl
          have p4 := HP.out.cell (j := 4) rfl
          have p5 := HP.out.cell (j := 5) rfl
          have pl := HP.out.lt
          go_upto_region 13 with (first
            | (go_at_call 22
               refine H22.out.mono ?_
               rintro e w2' ⟨rfl, M2, v2, L2, lv2, hT2, hS2⟩
               have hb2 := hS2.below HT1.out
               have HT2 := Lib.hid hT2
               have HK2 := Lib.hid (hS2.var HK1.out HA.out)
               have HA2 := Lib.hid (hS2.apt HK1.out.lt HA.out)
               have HP2 := Lib.hid (hS2.var HP.out HPA.out)
               have HB2 := Lib.hid (HB1.out.trans hb2)
               clear hT2 hS2 hb2 p0 p1 p2 p3 p4 p5 pl)
            | fail)
          obtain ⟨ns, nok, hnv⟩ := nextV_form g (S1)
          obtain ⟨nid, hnid⟩ : ∃ i, i = nextId g (S1) := ⟨_, rfl⟩
          rw [← hnid] at hnv
          have h13 := c13 HT2.out.q
          rw [hnv] at h13
          have H13 := Lib.hid h13
          clear hnv h13 hnid
          go_upto_region 14 with (first
            | (go_at_call 13; refine H13.out.mono ?_; rintro e w3 ⟨rfl, hb3⟩; have HB3 := Lib.hid hb3; clear hb3)
            | fail)
          generalize hW4 : World.alloc w3 _ = W4
          have hb4 : Below w2'.heap.size w2' W4 := by rw [← hW4]; exact HB3.out.alloc HB3.out.size _
          have p0 := (HP2.out.keep hb4 HP2.out.lt).cell (j := 0) rfl
          have pl := Nat.lt_of_lt_of_le HP2.out.lt hb4.size
          have HT4 := Lib.hid (HT2.out.below hb4)
          have HK4 := Lib.hid (HK2.out.keep hb4 HK2.out.lt)
          have HB4 := Lib.hid (HB2.out.trans (hb4.mono HB2.out.size))
          have HL4 := Lib.hid (HU4.out.2.1.last HL.out)
          clear hW4 hb4
          cases nok
          · obtain ⟨cv, hcv⟩ : ∃ cv, cv = (S1).clock := ⟨_, rfl⟩
            obtain ⟨sv, hsv⟩ : ∃ sv, sv = safeS g (S1) := ⟨_, rfl⟩
            have k1 : ¬ cv < ck := by rw [hcv]; have := HU4.out.2.1.1; have := HCK.out; omega
            have k2 : ¬ sv < sf := by rw [hsv]; have := HU4.out.2.1.safe HT.out.q.ok HU4.out.1 HG.out; have := HSF.out; omega
            have k3 : ¬ cv < sv := by rw [hcv, hsv]; have := (safe_spec HU4.out.1 HG.out).2.1; omega
            have h15 : ∀ W', Below W4.heap.size W4 W' → Calls Try.prog 15 #[.pointer (some ⟨x, 0, none⟩)] W' fun e w' => e = .returned (.int .u64 cv) ∧ Below W4.heap.size W4 w' := fun W' hb => (c15 (HT4.out.below hb).q).mono fun e w' ⟨h1, h2⟩ => ⟨by rw [h1, hcv], hb.trans (h2.mono hb.size)⟩
            have h16 : ∀ W', Below W4.heap.size W4 W' → Calls Try.prog 16 #[.pointer (some ⟨x, 0, none⟩)] W' fun e w' => e = .returned (.int .u64 sv) ∧ Below W4.heap.size W4 w' := fun W' hb => (c16 (HT4.out.below hb).q).mono fun e w' ⟨h1, h2⟩ => ⟨by rw [h1, hsv], hb.trans (h2.mono hb.size)⟩
            have H15 := Lib.hid h15
            have H16 := Lib.hid h16
            have HCV := Lib.hid hcv
            have HSV := Lib.hid hsv
            have hbz := Below.refl W4.heap.size W4
            clear h15 h16 hcv hsv
            go_wp2_with (first
              | (go_at_call 15; refine (H15.out _ (by assumption)).mono ?_; rintro e w' ⟨rfl, hbn⟩; clear hbz; have hbz := hbn; clear hbn)
              | (go_at_call 16; refine (H16.out _ (by assumption)).mono ?_; rintro e w' ⟨rfl, hbn⟩; clear hbz; have hbz := hbn; clear hbn)
              | fail)
            go_tidy
            refine ⟨⟨m + 1, _, cv, sv, lid, S1, M2, v2, L2, lv2, HLT.out, rfl, rfl, rfl, rfl, HT4.out.below hbz, HK4.out.keep hbz HK4.out.lt, HA2.out, HL4.out, by rw [HCV.out]; exact Int.le_refl _, by rw [HSV.out]; exact Int.le_refl _, by have := HU4.out.2.2; have := HSL.out; omega, HB4.out.trans (hbz.mono HB4.out.size)⟩, by have := HLT.out; simp [intOf]; omega⟩
          · obtain ⟨cv, hcv⟩ : ∃ cv, cv = (S1).clock := ⟨_, rfl⟩
            obtain ⟨sv, hsv⟩ : ∃ sv, sv = safeS g (S1) := ⟨_, rfl⟩
            have k1 : ¬ cv < ck := by rw [hcv]; have := HU4.out.2.1.1; have := HCK.out; omega
            have k2 : ¬ sv < sf := by rw [hsv]; have := HU4.out.2.1.safe HT.out.q.ok HU4.out.1 HG.out; have := HSF.out; omega
            have k3 : ¬ cv < sv := by rw [hcv, hsv]; have := (safe_spec HU4.out.1 HG.out).2.1; omega
            have h15 : ∀ W', Below W4.heap.size W4 W' → Calls Try.prog 15 #[.pointer (some ⟨x, 0, none⟩)] W' fun e w' => e = .returned (.int .u64 cv) ∧ Below W4.heap.size W4 w' := fun W' hb => (c15 (HT4.out.below hb).q).mono fun e w' ⟨h1, h2⟩ => ⟨by rw [h1, hcv], hb.trans (h2.mono hb.size)⟩
            have h16 : ∀ W', Below W4.heap.size W4 W' → Calls Try.prog 16 #[.pointer (some ⟨x, 0, none⟩)] W' fun e w' => e = .returned (.int .u64 sv) ∧ Below W4.heap.size W4 w' := fun W' hb => (c16 (HT4.out.below hb).q).mono fun e w' ⟨h1, h2⟩ => ⟨by rw [h1, hsv], hb.trans (h2.mono hb.size)⟩
            have H15 := Lib.hid h15
            have H16 := Lib.hid h16
            have HCV := Lib.hid hcv
            have HSV := Lib.hid hsv
            have hbz := Below.refl W4.heap.size W4
            clear h15 h16 hcv hsv
            go_wp2_with (first
              | (go_at_call 15; refine (H15.out _ (by assumption)).mono ?_; rintro e w' ⟨rfl, hbn⟩; clear hbz; have hbz := hbn; clear hbn)
              | (go_at_call 16; refine (H16.out _ (by assumption)).mono ?_; rintro e w' ⟨rfl, hbn⟩; clear hbz; have hbz := hbn; clear hbn)
              | fail)
            go_tidy
            refine ⟨⟨m + 1, _, cv, sv, lid, S1, M2, v2, L2, lv2, HLT.out, rfl, rfl, rfl, rfl, HT4.out.below hbz, HK4.out.keep hbz HK4.out.lt, HA2.out, HL4.out, by rw [HCV.out]; exact Int.le_refl _, by rw [HSV.out]; exact Int.le_refl _, by have := HU4.out.2.2; have := HSL.out; omega, HB4.out.trans (hbz.mono HB4.out.size)⟩, by have := HLT.out; simp [intOf]; omega⟩
    · obtain rfl : m = xs.length := by omega
      go_wp2_with fail
      go_tidy
      exact HR.out _ _ ⟨rfl, HB.out⟩
/-- The law's arguments as they come in. -/
theorem risesArg (v0 v1 : Value) (w : World) (a0 : ArgAt Try.prog 5 v0 w) (a1 : ArgAt Try.prog 60 v1 w) : Calls Try.prog 5 #[v0, v1] w fun e w' => e = .returned (.bool true) ∧ Below w.heap.size w w' := by
  obtain ⟨g, rfl, hg⟩ := a0.int Try.underlying5
  obtain ⟨v, xs, hok, hv, hr⟩ := a1.slice Try.underlying60 fun _ E => opensOps E w
  simp at hv
  subst hv
  have hb : 0 ≤ g ∧ g < 256 := by
    simp [Lit.wf, IntKind.min, IntKind.max, IntKind.signed, IntKind.bits] at hg
    omega
  exact risesWalk g v1 xs w hb.1 hb.2 ⟨hr, hok⟩
end Go.Proofs.Ytamjdghjaimihaa
