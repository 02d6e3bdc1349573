/- The law StampAgrees: all begin, all is told, all is taken, alike. Conditions: each law's own. -/
import Derived.Test.YtamjdghjaimihaaABegun
import Derived.SizedLaws
namespace Go.Proofs.Ytamjdghjaimihaa
open Go.ChangeShapes Go.WideShapes Go.ChangeAt Go.RowKit

def Cond (a : OneD) (p : Nat) : Prop := p / 4 ≠ p % 4 ∧ ((p / 4 : Nat) : Int) ∈ a.groups ∧ ((p % 4 : Nat) : Int) ∈ a.groups
/-- All that is told of the first i, and j sixteenths of the next one. -/
def Told (m : CM) (i j : Nat) : Prop := ∀ (k : Nat) (a : OneD) (p : Nat), (allOf m)[k]? = some a → p < 16 → (k < i ∨ (k = i ∧ p < j)) → Cond a p → Knows (m.S (p % 4)) a.id ((p / 4 : Nat) : Int)
theorem Goes.all {m m' : CM} (h : Goes m m') : allOf m' = allOf m := by unfold allOf; rw [h.A]
theorem Told.start (m : CM) : Told m 0 0 := fun k a p _ _ h => by omega
theorem Told.goes {m m' : CM} {i j : Nat} (h : Told m i j) (hg : Goes m m') : Told m' i j := fun k a p ha hp hk hc => (hg.behind _).knows (h k a p (by rw [← hg.all]; exact ha) hp hk hc)
theorem Told.next {m m' : CM} {i j : Nat} (h : Told m i j) (hg : Goes m m') {a : OneD} (ha : (allOf m)[i]? = some a) (hk : Cond a j → Knows (m'.S (j % 4)) a.id ((j / 4 : Nat) : Int)) : Told m' i (j + 1) := fun k b p hb hp hkp hc => by
  by_cases e : k = i ∧ p = j
  · obtain ⟨rfl, rfl⟩ := e
    rw [hg.all, ha] at hb; cases hb
    exact hk hc
  · exact h.goes hg k b p hb hp (by omega) hc
theorem Told.row {m : CM} {i : Nat} (h : Told m i 16) : Told m (i + 1) 0 := fun k a p ha hp hk hc => h k a p ha hp (by omega) hc
theorem Told.last {w : World} {c : Nat} {m : CM} {B i j : Nat} (h : Told m i j) (hG : Good w c m B) {a : OneD} (ha : (allOf m)[i]? = some a) (hl : i + 1 = (allOf m).length) (hj : 12 ≤ j) (hj2 : j < 16) :
    ∀ b ∈ allOf m, ∀ k ∈ b.groups, ((j % 4 : Nat) : Int) ∈ b.groups → k ≠ ((j % 4 : Nat) : Int) → Knows (m.S (j % 4)) b.id k ∨ (b = a ∧ k = ((j / 4 : Nat) : Int)) := by
  intro b hb k hk ht hne
  obtain ⟨x, hx⟩ := List.getElem?_of_mem hb
  have hxl := (List.getElem?_eq_some_iff.1 hx).1
  by_cases hex : ∃ o ∈ (m.S (j % 4)).L, o.id = b.id
  · obtain ⟨o, ho, he⟩ := hex
    have hTk := hG.take (j % 4) (by omega)
    obtain ⟨b', hb', hs⟩ := hTk.same o ho
    have hbb : b' = b := apart_eq hG.apart hb' hb (hs.1.symm.trans he)
    subst hbb
    have hr := (hTk.ok.ones o ho).range k (by rw [hs.2.1]; exact hk)
    obtain ⟨n, rfl⟩ : ∃ n : Nat, k = n := ⟨k.toNat, by omega⟩
    have hn4 : n < 4 := by omega
    by_cases hlast : x = i ∧ n = j / 4
    · obtain ⟨rfl, rfl⟩ := hlast
      rw [ha] at hx; cases hx
      exact .inr ⟨rfl, rfl⟩
    · left
      have e1 : (n * 4 + j % 4) / 4 = n := by omega
      have e2 : (n * 4 + j % 4) % 4 = j % 4 := by omega
      have := h x b' (n * 4 + j % 4) hx (by omega) (by omega) (by unfold Cond; rw [e1, e2]; exact ⟨by omega, hk, ht⟩)
      rw [e1, e2] at this; exact this
  · exact .inl fun o ho e => absurd ⟨o, ho, e⟩ hex
def AgRel1 (gs : List (List Int × Value)) (w : World) (i : Value) (wr : World) : Prop := ∃ n : Nat, i = .int .i64 n ∧ n ≤ gs.length ∧ (∀ (k : Nat) x, k < n → gs[k]? = some x → x.1.length ≤ 10) ∧ Below w.heap.size w wr
def AgRel2 (n0 c B : Nat) (m0 : CM) (w : World) (i : Value) (wr : World) : Prop := ∃ (n : Nat) (m : CM), i = .int .i64 n ∧ n ≤ n0 ∧ Good wr c m B ∧ Goes m0 m ∧ Below w.heap.size w wr
def AgRel3 (c B : Nat) (m0 : CM) (w : World) (i : Value) (wr : World) : Prop := ∃ (n : Nat) (m : CM), i = .int .i64 n ∧ n ≤ m0.A.length ∧ Good wr c m B ∧ Goes m0 m ∧ Told m n 0 ∧ (n = m0.A.length → 0 < n → ∀ t, t < 4 → (m.S t).L = []) ∧ Below w.heap.size w wr
def AgRel4 (n c B : Nat) (m0 : CM) (w : World) (i : Value) (wr : World) : Prop := ∃ (j : Nat) (m : CM), i = .int .i64 j ∧ j ≤ 16 ∧ Good wr c m B ∧ Goes m0 m ∧ Told m n j ∧ (n + 1 = m0.A.length → ∀ t, t < 4 → 12 + t < j → (m.S t).L = []) ∧ Below w.heap.size w wr
def AgRel5 (w : World) (i : Value) (wr : World) : Prop := ∃ n : Nat, i = .int .i64 n ∧ n ≤ 4 ∧ Below w.heap.size w wr
def AgRel6 (g : Nat) (w : World) (i : Value) (wr : World) : Prop := ∃ n : Nat, i = .int .i64 n ∧ n ≤ g ∧ Below w.heap.size w wr
theorem Goes.few {w : World} {c : Nat} {m : CM} {B : Nat} (h : Good w c m B) (h0 : m.A.length = 0) {t : Nat} (ht : t < 4) : (m.S t).L = [] := List.eq_nil_of_length_eq_zero (by have := h.few t ht; omega)
/-- What is told in a drawn order. -/
def AgS1 (c lk ok tb to' : Nat) (av : Value) (y : RefO) (t : Int × Int × Int) (W : World) : Prop := W.cell? ⟨c, 4, none⟩ = some av ∧ c < W.heap.size ∧ CellsR lk ok y W ∧ W.cell? ⟨tb, to', none⟩ = some (.int .u8 t.1) ∧ tb < W.heap.size
def AgS2 (b tb to' : Nat) (us : List Value) (t : Int × Int × Int) (W : World) : Prop := VarAt W b 55 us ∧ W.cell? ⟨tb, to' + 1, none⟩ = some (.int .u8 t.2.1) ∧ W.cell? ⟨tb, to' + 2, none⟩ = some (.int .u8 t.2.2) ∧ tb < W.heap.size
set_option maxHeartbeats 8000000 in
set_option maxRecDepth 1000000 in
theorem agreesWalk {w : World} {gv tv : Value} {gs : List (List Int × Value)} {o : Nat → List Int} {ov : Nat → Value} {ts : List (Int × Int × Int)} (hG : RowOf encGV 1 w gv gs) (hGs : ∀ x ∈ gs, RowOf encG 1 w x.2 x.1) (hO : OrdAt w o ov) (hT : RowOf enc3 3 w tv ts) (hT3 : ∀ t ∈ ts, T3 t) (hsz : ∀ g, g < 4 → (o g).length ≤ 140737488355328) :
    Calls Try.prog 4 #[gv, .agg #[ov 0, ov 1, ov 2, ov 3], tv] w fun e w' => e = .returned (.bool true) ∧ Below w.heap.size w w' := by
  refine gen fun R hR => ?_
  obtain ⟨W1, hW1⟩ : ∃ W1 : World, W1 = w.alloc (.cells #[ov 0, ov 1, ov 2, ov 3] 41) := ⟨_, rfl⟩
  obtain ⟨b0, hb0⟩ : ∃ b, b = w.heap.size := ⟨_, rfl⟩
  have hb1 : Below w.heap.size w W1 := by rw [hW1]; exact (Below.refl _ _).alloc (Nat.le_refl _) _
  have hV1 : VarAt W1 b0 41 (encO ov) := by rw [hW1, hb0]; exact VarAt.new w 41 _
  obtain ⟨ga, gc, hgv, hgl1, hgl2, -⟩ := _root_.id hG
  obtain ⟨ta, tc, htv, htl1, htl2, -⟩ := _root_.id hT
  have e0 : gv = .slice ga gs.length gc := hgv
  have e1 : tv = .slice ta ts.length tc := htv
  subst e0 e1
  obtain ⟨oa0, oc0, ho0, hm0, hx0, -⟩ := hO.row 0 (by omega)
  obtain ⟨oa1, oc1, ho1, hm1, hx1, -⟩ := hO.row 1 (by omega)
  obtain ⟨oa2, oc2, ho2, hm2, hx2, -⟩ := hO.row 2 (by omega)
  obtain ⟨oa3, oc3, ho3, hm3, hx3, -⟩ := hO.row 3 (by omega)
  have hs0 : ((o 0).length : Int) ≤ 140737488355328 := by have := hsz 0 (by omega); omega
  have hs1 : ((o 1).length : Int) ≤ 140737488355328 := by have := hsz 1 (by omega); omega
  have hs2 : ((o 2).length : Int) ≤ 140737488355328 := by have := hsz 2 (by omega); omega
  have hs3 : ((o 3).length : Int) ≤ 140737488355328 := by have := hsz 3 (by omega); omega
  have h9 := fun W (_ : Below w.heap.size w W) => c9 W
  unfold maxLen at hgl2 htl2 hx0 hx1 hx2 hx3
  have H9 := Lib.hid h9
  have HW1 := Lib.hid hW1
  have HB0 := Lib.hid hb0
  have HB1 := Lib.hid hb1
  have HV1 := Lib.hid hV1
  have HG := Lib.hid hG
  have HGS := Lib.hid hGs
  have HO := Lib.hid hO
  have HT := Lib.hid hT
  have HT3 := Lib.hid hT3
  have HR := Lib.hid hR
  have HO0 := Lib.hid ho0
  have HO1 := Lib.hid ho1
  have HO2 := Lib.hid ho2
  have HO3 := Lib.hid ho3
  clear hW1 hb0 hb1 hV1 hG hGs hO hT hT3 hR hgv htv h9 ho0 ho1 ho2 ho3
  by_cases hl1 : (gs.length : Int) > 20
  · go_enter Try.func4, Try.ntmps4
    go_upto_region 1 with fail
    rw [← HW1.out, ← HB0.out]
    go_wp2_with fail
    refine (c9 W1).mono ?_
    rintro e w2 ⟨rfl, hb2⟩
    have v1 := HV1.out.keep hb2 HV1.out.lt
    unfold encO at v1
    rw [HO0.out, HO1.out, HO2.out, HO3.out] at v1
    have f0 := v1.cell (j := 0) rfl
    have f1 := v1.cell (j := 1) rfl
    have f2 := v1.cell (j := 2) rfl
    have f3 := v1.cell (j := 3) rfl
    have fl := v1.lt
    have HB2 := Lib.hid (HB1.out.trans (hb2.mono HB1.out.size))
    have HV2 := Lib.hid (HV1.out.keep hb2 HV1.out.lt)
    clear v1 hb2
    go_wp2_with fail
    refine (c9 w2).mono ?_
    rintro e w3 ⟨rfl, hb3⟩
    have HB3 := Lib.hid (HB2.out.trans (hb3.mono HB2.out.size))
    clear hb3
    go_wp2_with fail
    go_tidy
    exact HR.out _ _ ⟨rfl, HB3.out⟩
  by_cases hl2 : (ts.length : Int) > 200
  · go_enter Try.func4, Try.ntmps4
    go_upto_region 1 with fail
    rw [← HW1.out, ← HB0.out]
    go_wp2_with fail
    refine (c9 W1).mono ?_
    rintro e w2 ⟨rfl, hb2⟩
    have v1 := HV1.out.keep hb2 HV1.out.lt
    unfold encO at v1
    rw [HO0.out, HO1.out, HO2.out, HO3.out] at v1
    have f0 := v1.cell (j := 0) rfl
    have f1 := v1.cell (j := 1) rfl
    have f2 := v1.cell (j := 2) rfl
    have f3 := v1.cell (j := 3) rfl
    have fl := v1.lt
    have HB2 := Lib.hid (HB1.out.trans (hb2.mono HB1.out.size))
    have HV2 := Lib.hid (HV1.out.keep hb2 HV1.out.lt)
    clear v1 hb2
    go_wp2_with fail
    refine (c9 w2).mono ?_
    rintro e w3 ⟨rfl, hb3⟩
    have HB3 := Lib.hid (HB2.out.trans (hb3.mono HB2.out.size))
    clear hb3
    go_wp2_with fail
    go_tidy
    exact HR.out _ _ ⟨rfl, HB3.out⟩
  by_cases hl3 : ((o 0).length : Int) + ((o 1).length : Int) + ((o 2).length : Int) + ((o 3).length : Int) > 200
  · go_enter Try.func4, Try.ntmps4
    go_upto_region 1 with fail
    rw [← HW1.out, ← HB0.out]
    go_wp2_with fail
    refine (c9 W1).mono ?_
    rintro e w2 ⟨rfl, hb2⟩
    have v1 := HV1.out.keep hb2 HV1.out.lt
    unfold encO at v1
    rw [HO0.out, HO1.out, HO2.out, HO3.out] at v1
    have f0 := v1.cell (j := 0) rfl
    have f1 := v1.cell (j := 1) rfl
    have f2 := v1.cell (j := 2) rfl
    have f3 := v1.cell (j := 3) rfl
    have fl := v1.lt
    have HB2 := Lib.hid (HB1.out.trans (hb2.mono HB1.out.size))
    have HV2 := Lib.hid (HV1.out.keep hb2 HV1.out.lt)
    clear v1 hb2
    go_wp2_with fail
    refine (c9 w2).mono ?_
    rintro e w3 ⟨rfl, hb3⟩
    have HB3 := Lib.hid (HB2.out.trans (hb3.mono HB2.out.size))
    clear hb3
    go_wp2_with fail
    go_tidy
    exact HR.out _ _ ⟨rfl, HB3.out⟩
  go_enter Try.func4, Try.ntmps4
  go_upto_region 1 with fail
  rw [← HW1.out, ← HB0.out]
  go_wp2_with fail
  refine (c9 W1).mono ?_
  rintro e w2 ⟨rfl, hb2⟩
  have v1 := HV1.out.keep hb2 HV1.out.lt
  unfold encO at v1
  rw [HO0.out, HO1.out, HO2.out, HO3.out] at v1
  have f0 := v1.cell (j := 0) rfl
  have f1 := v1.cell (j := 1) rfl
  have f2 := v1.cell (j := 2) rfl
  have f3 := v1.cell (j := 3) rfl
  have fl := v1.lt
  have HB2 := Lib.hid (HB1.out.trans (hb2.mono HB1.out.size))
  have HV2 := Lib.hid (HV1.out.keep hb2 HV1.out.lt)
  clear v1 hb2
  go_upto_region 3 with fail
  clear f0 f1 f2 f3 fl
  go_wp2
  go_loopw [7] (fun i wr => AgRel1 gs w i wr ∧ Below w2.heap.size w2 wr) (fun i _ => gs.length - (intOf i).toNat)
  case atStart => exact ⟨⟨0, rfl, Nat.zero_le _, fun k x hk => by omega, HB2.out⟩, Below.refl _ _⟩
  case round =>
    obtain ⟨⟨n, rfl, hn, hall, hb⟩, hb2⟩ := hrel
    have HALL := Lib.hid hall
    have HB := Lib.hid hb
    have HBB := Lib.hid hb2
    clear hall hb hb2
    rcases Nat.lt_or_ge n gs.length with hlt | hge
    · have hnI : (n : Int) < (gs.length : Int) := by omega
      obtain ⟨x, hx⟩ : ∃ x, gs[n]? = some x := ⟨_, List.getElem?_eq_getElem hlt⟩
      obtain ⟨gb, go', gcap, hgv, hgl, hgc⟩ := (HG.out.keep HB.out).cells hx
      cases hgv
      obtain ⟨xa, xc, hxv, hxl1, hxl2, -⟩ := (HGS.out x (List.mem_of_getElem? hx)).keep HB.out
      have g0 := hgc 0 _ rfl
      rw [Nat.mul_one, Nat.add_zero, hxv] at g0
      unfold maxLen at hxl2
      have HX := Lib.hid hx
      have HLT := Lib.hid hlt
      clear hgc hxv hx hlt
      by_cases hx10 : (x.1.length : Int) > 10
      · go_wp2
        go_tidy
        exact HR.out _ _ ⟨rfl, HB.out⟩
      · have HX10 := Lib.hid hx10
        go_wp2
        go_tidy
        refine ⟨⟨⟨n + 1, rfl, HLT.out, fun k y hk hy => ?_, HB.out⟩, HBB.out⟩, by have := HLT.out; simp [intOf]; omega⟩
        rcases Nat.lt_or_ge k n with h4 | h4
        · exact HALL.out k y h4 hy
        · obtain rfl : k = n := by omega
          rw [HX.out] at hy; cases hy; have := HX10.out; omega
    · obtain rfl : n = gs.length := by omega
      have hgs10 : ∀ x ∈ gs, RowOf encG 1 wr x.2 x.1 ∧ x.1.length ≤ 10 := fun x hx => by
        obtain ⟨k, hk⟩ := List.getElem?_of_mem hx
        exact ⟨(HGS.out x hx).keep HB.out, HALL.out k x (List.getElem?_eq_some_iff.1 hk).1 hk⟩
      have h18 := c18 (HG.out.keep HB.out) hgs10 (HO.out.below HB.out) (by omega) (fun g hg => by
        obtain rfl | rfl | rfl | rfl : g = 0 ∨ g = 1 ∨ g = 2 ∨ g = 3 := by omega
        all_goals omega)
      have v2 := HV2.out.keep HBB.out HV2.out.lt
      have q0 := v2.cell (j := 0) rfl
      have q1 := v2.cell (j := 1) rfl
      have q2 := v2.cell (j := 2) rfl
      have q3 := v2.cell (j := 3) rfl
      have ql := v2.lt
      have H18 := Lib.hid h18
      clear h18 hgs10 v2 hge hn
      go_upto_region 9 with (first | (go_at_call 18; refine H18.out.mono ?_; rintro e w4 ⟨c, m0, B, rfl, hG0, hBB, hb4⟩) | fail)
      have HG0 := Lib.hid hG0
      have HBW := Lib.hid (show w.heap.size ≤ B from Nat.le_trans HB.out.size hBB)
      have HB4 := Lib.hid (HB.out.trans (hb4.mono HB.out.size))
      clear hG0 hBB hb4 q0 q1 q2 q3 ql
      go_wp2
      go_loopw [10] (fun i wr => AgRel2 ts.length c B m0 w i wr) (fun i _ => ts.length - (intOf i).toNat)
      case atStart => exact ⟨0, m0, rfl, Nat.zero_le _, HG0.out, Goes.refl _, HB4.out⟩
      case round =>
        obtain ⟨n, m, rfl, hn, hG, hgo, hb⟩ := hrel
        have HGm := Lib.hid hG
        have HGO := Lib.hid hgo
        have HBm := Lib.hid hb
        obtain ⟨aa, ac, hav⟩ := owns_slice' hG.at4.all
        have f4 := hG.at4.box.cell (j := 4) rfl
        rw [hav] at f4
        have fl := hG.at4.box.lt
        have HAV := Lib.hid hav
        have hA20 := hG.small
        clear hG hgo hb hav
        rcases Nat.lt_or_ge n ts.length with hlt | hge
        · have hnI : (n : Int) < (ts.length : Int) := by omega
          rcases Nat.eq_zero_or_pos m.A.length with hz | hp
          · have hzI : (m.A.length : Int) = 0 := by omega
            go_upto_region 16 with fail
            clear f4 fl
            go_wp2
            go_loopw [12] (fun i wr => AgRel3 c B m0 w i wr) (fun i _ => m0.A.length - (intOf i).toNat)
            case atStart => exact ⟨0, m, rfl, Nat.zero_le _, HGm.out, HGO.out, Told.start m, (fun _ h => absurd h (Nat.lt_irrefl 0)), HBm.out⟩
            case round =>
              clear HGm HGO HBm HAV
              obtain ⟨i, m, rfl, hi, hG, hgo, htold, hemp, hb⟩ := hrel
              obtain ⟨wo, hwo⟩ : ∃ x, x = wr := ⟨_, rfl⟩
              subst hwo
              have hN : m.A.length = m0.A.length := by rw [hgo.A]
              have HGm := Lib.hid hG
              have HGO := Lib.hid hgo
              have HTO := Lib.hid htold
              have HEM := Lib.hid hemp
              have HBm := Lib.hid hb
              obtain ⟨aa, ac, hav⟩ := owns_slice' hG.at4.all
              have f4 := hG.at4.box.cell (j := 4) rfl
              rw [hav, hN] at f4
              have fl := hG.at4.box.lt
              have hA20 := hG.small
              rw [hN] at hA20
              clear hG hgo hb hav htold hemp
              rcases Nat.lt_or_ge i m0.A.length with hlt | hge
              · have hiI : (i : Int) < (m0.A.length : Int) := by omega
                have HLT := Lib.hid hlt
                clear hlt
                go_upto_region 19 with fail
                go_wp2
                go_loopw [13] (fun j wr => AgRel4 i c B m0 w j wr) (fun j _ => 16 - (intOf j).toNat)
                case atStart => exact ⟨0, m, rfl, by omega, HGm.out, HGO.out, HTO.out, fun _ t ht h => by omega, HBm.out⟩
                case round =>
                  clear HGm HGO HTO HEM HBm f4 fl hN
                  obtain ⟨j, m2, rfl, hj, hG, hgo, htold, hemp, hb⟩ := hrel
                  have HTO := Lib.hid htold
                  have HEM := Lib.hid hemp
                  have HGO := Lib.hid hgo
                  have HBm := Lib.hid hb
                  have HGm := Lib.hid hG
                  rcases Nat.lt_or_ge j 16 with hj16 | hj16
                  · have hjI : (j : Int) < 16 := by omega
                    have hN : m2.A.length = m0.A.length := by rw [hgo.A]
                    obtain ⟨y, hy⟩ : ∃ y, m2.A[i]? = some y := ⟨_, List.getElem?_eq_getElem (by rw [hN]; exact HLT.out)⟩
                    obtain ⟨lk, lcap, hle, hlkl, hlcap⟩ := row_addr hG.at4.all (by rw [hN]; have := HLT.out; omega)
                    have f4 := hG.at4.box.cell (j := 4) rfl
                    rw [hle, hN] at f4
                    have fl := hG.at4.box.lt
                    obtain ⟨y0, y1, y2, y3, y4, y5, y6, yl⟩ := CellsR.of (by have := hG.at4.all; rw [hle] at this; exact this) hy
                    have h19 := c19 hG (List.mem_of_getElem? hy) (fr := j / 4) (tt := j % 4) (by omega) (by omega)
                    unfold oneV at h19
                    have e4 : (j : Int) / 4 = ((j / 4 : Nat) : Int) := by omega
                    have e5 : (j : Int) % 4 = ((j % 4 : Nat) : Int) := by omega
                    have HE := Lib.hid (And.intro e4 e5)
                    have H19 := Lib.hid h19
                    have HY := Lib.hid hy
                    have HN := Lib.hid hN
                    clear hG hgo hb htold hemp hy hle h19 e4 e5 hN hlcap
                    go_upto_region 21 with fail
                    rw [HE.out.1, HE.out.2]
                    refine H19.out.mono ?_
                    rintro e w6 ⟨rfl, m3, hG3, hgo3, hk3, hn3, hb3⟩
                    have HG3 := Lib.hid hG3
                    have HGO3 := Lib.hid hgo3
                    have HK3 := Lib.hid hk3
                    have HN3 := Lib.hid hn3
                    have HB3 := Lib.hid hb3
                    clear hG3 hgo3 hk3 hn3 hb3 y0 y1 y2 y3 y4 y5 y6 yl f4 fl hlkl
                    go_wp2_with fail
                    go_tidy
                    refine ⟨⟨j + 1, m3, rfl, hj16, HG3.out, HGO.out.trans HGO3.out, HTO.out.next HGO3.out (allOf_at HY.out) HK3.out, fun hl t ht h12 => ?_, ?_⟩, by simp [intOf]; omega⟩
                    · rcases Nat.lt_or_ge (12 + t) j with h1 | h1
                      · exact (HGO3.out.behind t).nil (HEM.out hl t ht h1)
                      · have ht' : t = j % 4 := by omega
                        rw [ht']
                        exact HN3.out (HTO.out.last HGm.out (allOf_at HY.out) (by unfold allOf; rw [List.length_map, HN.out]; exact hl) (by omega) hj16)
                    · exact HBm.out.trans (HB3.out.mono HBW.out)
                  · obtain rfl : j = 16 := by omega
                    clear hG hgo hb htold hemp
                    go_wp2
                    go_tidy
                    exact ⟨⟨i + 1, m2, rfl, HLT.out, HGm.out, HGO.out, HTO.out.row, fun hl _ t ht => HEM.out hl t ht (by omega), HBm.out⟩, by have := HLT.out; simp [intOf]; omega⟩
              · obtain rfl : i = m0.A.length := by omega
                have hnil : ∀ t, t < 4 → (m.S t).L = [] := fun t ht => by
                  rcases Nat.eq_zero_or_pos m0.A.length with h0 | h0
                  · exact Goes.few HGm.out (by omega) ht
                  · exact HEM.out rfl h0 t ht
                have HNIL := Lib.hid hnil
                clear hnil
                go_upto_region 23 with fail
                clear f4 fl
                go_wp2
                go_loopw [14] (fun i wr => AgRel5 wo i wr) (fun i _ => 4 - (intOf i).toNat)
                case atStart => exact ⟨0, rfl, by omega, Below.refl _ _⟩
                case round =>
                  obtain ⟨g, rfl, hg4, hb5⟩ := hrel
                  have HB5 := Lib.hid hb5
                  clear hb5
                  rcases Nat.lt_or_ge g 4 with hg | hg
                  · have hgI : (g : Int) < 4 := by omega
                    have hg0 : ¬ (g : Int) < 0 := by omega
                    go_upto_region 26 with fail
                    go_wp2
                    go_loopw [15] (fun i wr => AgRel6 g wo i wr) (fun i _ => g - (intOf i).toNat)
                    case atStart => exact ⟨0, rfl, Nat.zero_le _, HB5.out⟩
                    case round =>
                      clear HB5
                      obtain ⟨k, rfl, hk, hb6⟩ := hrel
                      have HB6 := Lib.hid hb6
                      have hGw := HGm.out.below hb6
                      clear hb6
                      rcases Nat.lt_or_ge k g with hkg | hkg
                      · have hkI : (k : Int) < (g : Int) := by omega
                        have h20 := c20 hGw (g := g) (h := k) hg (by omega)
                        have H20 := Lib.hid h20
                        clear h20 hGw
                        go_wp2_with (first | (go_at_call 20; refine H20.out.mono ?_; rintro e w7 ⟨rfl, hb7⟩; have HB7 := Lib.hid hb7; clear hb7) | fail)
                        go_tidy
                        exact ⟨⟨k + 1, rfl, hkg, HB6.out.trans (HB7.out.mono HB6.out.size)⟩, by simp [intOf]; omega⟩
                      · obtain rfl : k = g := by omega
                        have kq := hGw.at4.box.cell (encC_at m hg).1
                        rw [hGw.at4.ptr k hg] at kq
                        have kl := hGw.at4.box.lt
                        have hMl : (m.M k).length ≤ 1000 := by have h1 := (hGw.at4.q k hg).len; rw [HNIL.out k hg] at h1; rw [h1]; exact Nat.zero_le _
                        have h17 := c17 (hGw.at4.q k hg) hMl
                        have hwn : waitingS k (m.S k) = [] := by unfold waitingS; rw [HNIL.out k hg]; unfold ord; simp
                        rw [hwn] at h17
                        have H17 := Lib.hid h17
                        clear h17 hGw hwn hMl
                        go_wp2_with (first | (go_at_call 17; refine H17.out.mono ?_; rintro e w7 ⟨v, rfl, ⟨va, vc, hvv, -⟩, hb7⟩; subst hvv; have HB7 := Lib.hid hb7; clear hb7) | fail)
                        go_tidy
                        exact ⟨⟨k + 1, rfl, hg, HB6.out.trans (HB7.out.mono HB6.out.size)⟩, by simp [intOf]; omega⟩
                  · obtain rfl : g = 4 := by omega
                    go_wp2
                    go_tidy
                    exact HR.out _ _ ⟨rfl, HBm.out.trans (HB5.out.mono HBm.out.size)⟩
          · have hpI : (0 : Int) < (m.A.length : Int) := by omega
            obtain ⟨t, ht⟩ : ∃ t, ts[n]? = some t := ⟨_, List.getElem?_eq_getElem hlt⟩
            obtain ⟨⟨hx0, hx1⟩, ⟨hy0, hy1⟩, ⟨hz0, hz1⟩⟩ := HT3.out t (List.mem_of_getElem? ht)
            obtain ⟨tb, to', tcap, hte, htl, htc⟩ := (HT.out.keep HBm.out).cells ht
            cases hte
            have t0 := htc 0 _ rfl
            have t1 := htc 1 _ rfl
            have t2 := htc 2 _ rfl
            rw [Nat.add_zero] at t0
            obtain ⟨k, hkx⟩ : ∃ k : Nat, t.1 % (m.A.length : Int) = k := ⟨(t.1 % (m.A.length : Int)).toNat, by rw [Int.toNat_of_nonneg (Int.emod_nonneg _ (by omega))]⟩
            have hkl : k < m.A.length := by have := Int.emod_lt_of_pos t.1 hpI; omega
            have hwr : IntKind.i64.wrap t.1 = t.1 := IntWalk.i64_in _ ⟨by omega, by omega⟩
            have hrem : (IntKind.i64.wrap t.1).tmod (m.A.length : Int) = (k : Int) := by rw [hwr, Int.tmod_eq_emod_of_nonneg hx0, hkx]
            have hne : ¬ m.A = [] := fun e => by rw [e] at hp; exact absurd hp (by simp)
            clear hwr
            have hkI : (k : Int) < (m.A.length : Int) := by omega
            obtain ⟨y, hy⟩ : ∃ y, m.A[k]? = some y := ⟨_, List.getElem?_eq_getElem hkl⟩
            obtain ⟨ya, yc, hyv⟩ := owns_slice' (HGm.out.at4.gs y (List.mem_of_getElem? hy))
            obtain ⟨a, yv⟩ := y
            simp only at hyv
            subst hyv
            obtain ⟨lk, lcap, hle, hlkl, hlcap⟩ := row_addr HGm.out.at4.all hp
            have hle2 : Value.slice (some ⟨lk, 0, none⟩) m.A.length lcap = .slice aa m.A.length ac := by rw [← hle]; exact HAV.out
            have haa : aa = some ⟨lk, 0, none⟩ := by cases hle2; rfl
            clear hle2
            have hcr := CellsR.of (by have := HGm.out.at4.all; rw [hle] at this; exact this) hy
            have hS0 : AgS1 c lk (k * 7) tb (to' + n * 3) (.slice (some ⟨lk, 0, none⟩) m.A.length ac) (a, .slice ya a.groups.length yc) t wr.drew := ⟨by rw [← haa]; exact f4, fl, hcr, t0, htl⟩
            go_upto_region 14 with fail
            have HS2 := Lib.hid (And.intro t1 t2)
            have HY := Lib.hid hy
            have HLT := Lib.hid hlt
            have HTL := Lib.hid htl
            clear t0 t1 t2 htc ht hle haa hcr f4 fl htl hlt hlkl hlcap hy
            refine wp_region_noPanic ?_
            refine till_start (AgS1 c lk (k * 7) tb (to' + n * 3) (.slice (some ⟨lk, 0, none⟩) m.A.length ac) (a, .slice ya a.groups.length yc) t) 19 (by kernel_rfl) ?_
            have hS := hS0
            show AnyTill _ _ _ _ _ _ 20 (Array.replicate 20 false) _ _
            refine till_take 0 (v := ?_) rfl (by kernel_rfl) (fun _ _ _ h => h) (Or.inl ⟨by rfl, ?_⟩) hS ?_
            rotate_left
            focus (intro w' hSw; obtain ⟨q1, ql, ⟨p0, p1, p2, p3, p4, p5, p6, pl⟩, q2, tl⟩ := hSw; go_simp; try (with_reducible rfl))
            try simp only [Act.put, List.setIfInBounds_toArray, List.set_cons_zero, List.set_cons_succ]
            refine till_take 1 (v := ?_) rfl (by kernel_rfl) (fun _ _ _ h => h) (Or.inl ⟨by rfl, ?_⟩) hS ?_
            rotate_left
            focus (intro w' hSw; obtain ⟨q1, ql, ⟨p0, p1, p2, p3, p4, p5, p6, pl⟩, q2, tl⟩ := hSw; go_simp; try (with_reducible rfl))
            try simp only [Act.put, List.setIfInBounds_toArray, List.set_cons_zero, List.set_cons_succ]
            refine till_take 2 (v := ?_) rfl (by kernel_rfl) (fun _ _ _ h => h) (Or.inl ⟨by rfl, ?_⟩) hS ?_
            rotate_left
            focus (intro w' hSw; obtain ⟨q1, ql, ⟨p0, p1, p2, p3, p4, p5, p6, pl⟩, q2, tl⟩ := hSw; go_simp; try (with_reducible rfl))
            try simp only [Act.put, List.setIfInBounds_toArray, List.set_cons_zero, List.set_cons_succ]
            refine till_take 3 (v := ?_) rfl (by kernel_rfl) (fun _ _ _ h => h) (Or.inl ⟨by rfl, ?_⟩) hS ?_
            rotate_left
            focus (intro w' hSw; obtain ⟨q1, ql, ⟨p0, p1, p2, p3, p4, p5, p6, pl⟩, q2, tl⟩ := hSw; go_simp; try (with_reducible rfl))
            try simp only [Act.put, List.setIfInBounds_toArray, List.set_cons_zero, List.set_cons_succ]
            refine till_take 4 (v := ?_) rfl (by kernel_rfl) (fun _ _ _ h => h) (Or.inl ⟨by rfl, ?_⟩) hS ?_
            rotate_left
            focus (intro w' hSw; obtain ⟨q1, ql, ⟨p0, p1, p2, p3, p4, p5, p6, pl⟩, q2, tl⟩ := hSw; go_simp; try (with_reducible rfl))
            try simp only [Act.put, List.setIfInBounds_toArray, List.set_cons_zero, List.set_cons_succ]
            refine till_take 5 (v := ?_) rfl (by kernel_rfl) (fun _ _ _ h => h) (Or.inl ⟨by rfl, ?_⟩) hS ?_
            rotate_left
            focus (intro w' hSw; obtain ⟨q1, ql, ⟨p0, p1, p2, p3, p4, p5, p6, pl⟩, q2, tl⟩ := hSw; go_simp; try (with_reducible rfl))
            try simp only [Act.put, List.setIfInBounds_toArray, List.set_cons_zero, List.set_cons_succ]
            refine till_take 6 (v := ?_) rfl (by kernel_rfl) (fun _ _ _ h => h) (Or.inl ⟨by rfl, ?_⟩) hS ?_
            rotate_left
            focus (intro w' hSw; obtain ⟨q1, ql, ⟨p0, p1, p2, p3, p4, p5, p6, pl⟩, q2, tl⟩ := hSw; go_simp; try (with_reducible rfl))
            try simp only [Act.put, List.setIfInBounds_toArray, List.set_cons_zero, List.set_cons_succ]
            refine till_take 7 (v := ?_) rfl (by kernel_rfl) (fun _ _ _ h => h) (Or.inl ⟨by rfl, ?_⟩) hS ?_
            rotate_left
            focus (intro w' hSw; obtain ⟨q1, ql, ⟨p0, p1, p2, p3, p4, p5, p6, pl⟩, q2, tl⟩ := hSw; go_simp; try (with_reducible rfl))
            try simp only [Act.put, List.setIfInBounds_toArray, List.set_cons_zero, List.set_cons_succ]
            refine till_take 8 (v := ?_) rfl (by kernel_rfl) (fun _ _ _ h => h) (Or.inl ⟨by rfl, ?_⟩) hS ?_
            rotate_left
            focus (intro w' hSw; obtain ⟨q1, ql, ⟨p0, p1, p2, p3, p4, p5, p6, pl⟩, q2, tl⟩ := hSw; go_simp; try (with_reducible rfl))
            try simp only [Act.put, List.setIfInBounds_toArray, List.set_cons_zero, List.set_cons_succ]
            refine till_take 9 (v := ?_) rfl (by kernel_rfl) (fun _ _ _ h => h) (Or.inl ⟨by rfl, ?_⟩) hS ?_
            rotate_left
            focus (intro w' hSw; obtain ⟨q1, ql, ⟨p0, p1, p2, p3, p4, p5, p6, pl⟩, q2, tl⟩ := hSw; go_simp; try (with_reducible rfl))
            try simp only [Act.put, List.setIfInBounds_toArray, List.set_cons_zero, List.set_cons_succ]
            refine till_take 10 (v := ?_) rfl (by kernel_rfl) (fun _ _ _ h => h) (Or.inl ⟨by rfl, ?_⟩) hS ?_
            rotate_left
            focus (intro w' hSw; obtain ⟨q1, ql, ⟨p0, p1, p2, p3, p4, p5, p6, pl⟩, q2, tl⟩ := hSw; go_simp; try (with_reducible rfl))
            try simp only [Act.put, List.setIfInBounds_toArray, List.set_cons_zero, List.set_cons_succ]
            refine till_take 11 (v := ?_) rfl (by kernel_rfl) (fun _ _ _ h => h) (Or.inl ⟨by rfl, ?_⟩) hS ?_
            rotate_left
            focus (intro w' hSw; obtain ⟨q1, ql, ⟨p0, p1, p2, p3, p4, p5, p6, pl⟩, q2, tl⟩ := hSw; go_simp; try (with_reducible rfl))
            try simp only [Act.put, List.setIfInBounds_toArray, List.set_cons_zero, List.set_cons_succ]
            refine till_take 12 (v := ?_) rfl (by kernel_rfl) (fun _ _ _ h => h) (Or.inl ⟨by rfl, ?_⟩) hS ?_
            rotate_left
            focus (intro w' hSw; obtain ⟨q1, ql, ⟨p0, p1, p2, p3, p4, p5, p6, pl⟩, q2, tl⟩ := hSw; go_simp; try (with_reducible rfl))
            try simp only [Act.put, List.setIfInBounds_toArray, List.set_cons_zero, List.set_cons_succ]
            refine till_take 13 (v := ?_) rfl (by kernel_rfl) (fun _ _ _ h => h) (Or.inl ⟨by rfl, ?_⟩) hS ?_
            rotate_left
            focus (intro w' hSw; obtain ⟨q1, ql, ⟨p0, p1, p2, p3, p4, p5, p6, pl⟩, q2, tl⟩ := hSw; go_simp; try (with_reducible rfl))
            try simp only [Act.put, List.setIfInBounds_toArray, List.set_cons_zero, List.set_cons_succ]
            refine till_take 14 (v := ?_) rfl (by kernel_rfl) (fun _ _ _ h => h) (Or.inl ⟨by rfl, ?_⟩) hS ?_
            rotate_left
            focus (intro w' hSw; obtain ⟨q1, ql, ⟨p0, p1, p2, p3, p4, p5, p6, pl⟩, q2, tl⟩ := hSw; go_simp; try (with_reducible rfl))
            try simp only [Act.put, List.setIfInBounds_toArray, List.set_cons_zero, List.set_cons_succ]
            refine till_take 15 (v := ?_) rfl (by kernel_rfl) (fun _ _ _ h => h) (Or.inl ⟨by rfl, ?_⟩) hS ?_
            rotate_left
            focus (intro w' hSw; obtain ⟨q1, ql, ⟨p0, p1, p2, p3, p4, p5, p6, pl⟩, q2, tl⟩ := hSw; go_simp; try (with_reducible rfl))
            try simp only [Act.put, List.setIfInBounds_toArray, List.set_cons_zero, List.set_cons_succ]
            refine till_take 16 (v := ?_) rfl (by kernel_rfl) (fun _ _ _ h => h) (Or.inl ⟨by rfl, ?_⟩) hS ?_
            rotate_left
            focus (intro w' hSw; obtain ⟨q1, ql, ⟨p0, p1, p2, p3, p4, p5, p6, pl⟩, q2, tl⟩ := hSw; go_simp; try (with_reducible rfl))
            try simp only [Act.put, List.setIfInBounds_toArray, List.set_cons_zero, List.set_cons_succ]
            refine till_take 17 (v := ?_) rfl (by kernel_rfl) (fun _ _ _ h => h) (Or.inl ⟨by rfl, ?_⟩) hS ?_
            rotate_left
            focus (intro w' hSw; obtain ⟨q1, ql, ⟨p0, p1, p2, p3, p4, p5, p6, pl⟩, q2, tl⟩ := hSw; go_simp; try (with_reducible rfl))
            try simp only [Act.put, List.setIfInBounds_toArray, List.set_cons_zero, List.set_cons_succ]
            refine till_ready [18] (by kernel_rfl) (TillReady.cons 18 rfl (fun K hK => ?_) TillReady.nil)
            go_simp
            obtain ⟨W8, hW8⟩ : ∃ W : World, W = (wr.alloc (.cells #[.int .i64 0, .int .i64 0, .slice none 0 0, .int .u64 0, .int .u64 0, .int .u64 0, .int .u64 0] 55)).drew := ⟨_, rfl⟩
            have hb8 : Below wr.heap.size wr W8 := by rw [hW8]; exact ((Below.refl _ _).alloc (Nat.le_refl _) _).drew
            have hN8 : VarAt W8 wr.heap.size 55 [.int .i64 0, .int .i64 0, .slice none 0 0, .int .u64 0, .int .u64 0, .int .u64 0, .int .u64 0] := by rw [hW8]; exact VarAt.new wr 55 _
            have hb8d : Below wr.drew.heap.size wr.drew W8 := ⟨hb8.os, hb8.tape, hb8.output, hb8.size, hb8.block⟩
            rw [← hW8]
            have hS8 : AgS1 c lk (k * 7) tb (to' + n * 3) (.slice (some ⟨lk, 0, none⟩) m.A.length ac) (a, .slice ya a.groups.length yc) t W8 := ⟨by rw [hb8.cell (p := ⟨c, 4, none⟩) hS.2.1]; exact hS.1, Nat.lt_of_lt_of_le hS.2.1 hb8.size, hS.2.2.1.below hb8d, by rw [hb8.cell (p := ⟨tb, _, none⟩) hS.2.2.2.2]; exact hS.2.2.2.1, Nat.lt_of_lt_of_le hS.2.2.2.2 hb8.size⟩
            clear hS hW8
            have hS := hS8
            refine (Hid.out hK) _ _ (fun _ => hS) ?_
            try simp only [Act.put, List.setIfInBounds_toArray, List.set_cons_zero, List.set_cons_succ]
            refine till_ready [19] (by kernel_rfl) (TillReady.cons 19 rfl (fun K hK => ?_) TillReady.nil)
            have n0 := hN8.cell (j := 0) rfl
            have k0 := hN8.free 0
            have n1 := hN8.cell (j := 1) rfl
            have k1 := hN8.free 1
            have n2 := hN8.cell (j := 2) rfl
            have k2 := hN8.free 2
            have n3 := hN8.cell (j := 3) rfl
            have k3 := hN8.free 3
            have n4 := hN8.cell (j := 4) rfl
            have k4 := hN8.free 4
            have n5 := hN8.cell (j := 5) rfl
            have k5 := hN8.free 5
            have n6 := hN8.cell (j := 6) rfl
            have k6 := hN8.free 6
            have nl := hN8.lt
            go_simp
            refine (Hid.out hK) _ _ (fun h => absurd rfl h) ?_
            refine till_done (by kernel_rfl) ?_
            refine NoPanic.normal ?_
            generalize hW9 : World.setCell _ _ (Value.int .u64 (a.kn 3)) = W9
            have hN9 : VarAt W9 wr.heap.size 55 (encR (a, .slice ya a.groups.length yc)) := by
              rw [← hW9]
              exact ((((((hN8.set 0 _).set 1 _).set 2 _).set 3 _).set 4 _).set 5 _).set 6 _
            have hb9 : Below wr.heap.size wr W9 := by
              rw [← hW9]
              exact ((((((hb8.setCell (Nat.le_refl _) _).setCell (Nat.le_refl _) _).setCell (Nat.le_refl _) _).setCell (Nat.le_refl _) _).setCell (Nat.le_refl _) _).setCell (Nat.le_refl _) _).setCell (Nat.le_refl _) _
            obtain ⟨t1, t2⟩ := HS2.out
            have htl := HTL.out
            have hG9 := HGm.out.below hb9
            have HG9 := Lib.hid hG9
            have HB9 := Lib.hid (HBm.out.trans (hb9.mono HBm.out.size))
            obtain ⟨bb, hbb⟩ : ∃ b, b = wr.heap.size := ⟨_, rfl⟩
            rw [← hbb] at hN9
            rw [← hbb]
            have hS20 : AgS2 bb tb (to' + n * 3) (encR (a, .slice ya a.groups.length yc)) t W9.drew := ⟨hN9.keep (Below.refl _ _).drew hN9.lt, by rw [show W9.drew.cell? ⟨tb, to' + n * 3 + 1, none⟩ = W9.cell? ⟨tb, to' + n * 3 + 1, none⟩ from rfl, hb9.cell (p := ⟨tb, to' + n * 3 + 1, none⟩) htl]; exact t1, by rw [show W9.drew.cell? ⟨tb, to' + n * 3 + 2, none⟩ = W9.cell? ⟨tb, to' + n * 3 + 2, none⟩ from rfl, hb9.cell (p := ⟨tb, to' + n * 3 + 2, none⟩) htl]; exact t2, Nat.lt_of_lt_of_le htl hb9.size⟩
            clear hS hS8 hN8 hb8 hb8d hW9 hb9 hG9 hN9 hbb t1 t2 htl hS0 n0 n1 n2 n3 n4 n5 n6 k0 k1 k2 k3 k4 k5 k6 nl
            obtain ⟨fr, hfr⟩ : ∃ k : Nat, t.2.1.tmod 4 = k := ⟨(t.2.1.tmod 4).toNat, by rw [Int.toNat_of_nonneg]; rw [Int.tmod_eq_emod_of_nonneg hy0]; omega⟩
            obtain ⟨tt, htt⟩ : ∃ k : Nat, t.2.2.tmod 4 = k := ⟨(t.2.2.tmod 4).toNat, by rw [Int.toNat_of_nonneg]; rw [Int.tmod_eq_emod_of_nonneg hz0]; omega⟩
            have hf4 : fr < 4 := by rw [Int.tmod_eq_emod_of_nonneg hy0] at hfr; omega
            have ht4 : tt < 4 := by rw [Int.tmod_eq_emod_of_nonneg hz0] at htt; omega
            have hw1 : IntKind.i64.wrap (fr : Int) = fr := IntWalk.i64_in _ ⟨by omega, by omega⟩
            have hw2 : IntKind.i64.wrap (tt : Int) = tt := IntWalk.i64_in _ ⟨by omega, by omega⟩
            have h19 := c19 (HG9.out.below (Below.refl _ _).drew) (List.mem_of_getElem? HY.out) hf4 ht4
            unfold oneV at h19
            have H19 := Lib.hid h19
            clear h19
            go_upto_region 15 with fail
            refine wp_region_noPanic ?_
            refine till_start (AgS2 bb tb (to' + n * 3) (encR (a, .slice ya a.groups.length yc)) t) 16 (by kernel_rfl) ?_
            have hS := hS20
            show AnyTill _ _ _ _ _ _ 17 (Array.replicate 17 false) _ _
            refine till_take 0 (v := ?_) rfl (by kernel_rfl) (fun _ _ _ h => h) (Or.inl ⟨by rfl, ?_⟩) hS ?_
            rotate_left
            focus (intro w' hSw; obtain ⟨hN, q1, q2, tl⟩ := hSw; have r0 := hN.cell (j := 0) rfl; have r1 := hN.cell (j := 1) rfl; have r2 := hN.cell (j := 2) rfl; have r3 := hN.cell (j := 3) rfl; have r4 := hN.cell (j := 4) rfl; have r5 := hN.cell (j := 5) rfl; have r6 := hN.cell (j := 6) rfl; have nl := hN.lt; clear hN; go_simp; try (with_reducible rfl))
            try simp only [Act.put, List.setIfInBounds_toArray, List.set_cons_zero, List.set_cons_succ]
            refine till_take 1 (v := ?_) rfl (by kernel_rfl) (fun _ _ _ h => h) (Or.inl ⟨by rfl, ?_⟩) hS ?_
            rotate_left
            focus (intro w' hSw; obtain ⟨hN, q1, q2, tl⟩ := hSw; have r0 := hN.cell (j := 0) rfl; have r1 := hN.cell (j := 1) rfl; have r2 := hN.cell (j := 2) rfl; have r3 := hN.cell (j := 3) rfl; have r4 := hN.cell (j := 4) rfl; have r5 := hN.cell (j := 5) rfl; have r6 := hN.cell (j := 6) rfl; have nl := hN.lt; clear hN; go_simp; try (with_reducible rfl))
            try simp only [Act.put, List.setIfInBounds_toArray, List.set_cons_zero, List.set_cons_succ]
            refine till_take 2 (v := ?_) rfl (by kernel_rfl) (fun _ _ _ h => h) (Or.inl ⟨by rfl, ?_⟩) hS ?_
            rotate_left
            focus (intro w' hSw; obtain ⟨hN, q1, q2, tl⟩ := hSw; have r0 := hN.cell (j := 0) rfl; have r1 := hN.cell (j := 1) rfl; have r2 := hN.cell (j := 2) rfl; have r3 := hN.cell (j := 3) rfl; have r4 := hN.cell (j := 4) rfl; have r5 := hN.cell (j := 5) rfl; have r6 := hN.cell (j := 6) rfl; have nl := hN.lt; clear hN; go_simp; try (with_reducible rfl))
            try simp only [Act.put, List.setIfInBounds_toArray, List.set_cons_zero, List.set_cons_succ]
            refine till_take 3 (v := ?_) rfl (by kernel_rfl) (fun _ _ _ h => h) (Or.inl ⟨by rfl, ?_⟩) hS ?_
            rotate_left
            focus (intro w' hSw; obtain ⟨hN, q1, q2, tl⟩ := hSw; have r0 := hN.cell (j := 0) rfl; have r1 := hN.cell (j := 1) rfl; have r2 := hN.cell (j := 2) rfl; have r3 := hN.cell (j := 3) rfl; have r4 := hN.cell (j := 4) rfl; have r5 := hN.cell (j := 5) rfl; have r6 := hN.cell (j := 6) rfl; have nl := hN.lt; clear hN; go_simp; try (with_reducible rfl))
            try simp only [Act.put, List.setIfInBounds_toArray, List.set_cons_zero, List.set_cons_succ]
            refine till_take 4 (v := ?_) rfl (by kernel_rfl) (fun _ _ _ h => h) (Or.inl ⟨by rfl, ?_⟩) hS ?_
            rotate_left
            focus (intro w' hSw; obtain ⟨hN, q1, q2, tl⟩ := hSw; have r0 := hN.cell (j := 0) rfl; have r1 := hN.cell (j := 1) rfl; have r2 := hN.cell (j := 2) rfl; have r3 := hN.cell (j := 3) rfl; have r4 := hN.cell (j := 4) rfl; have r5 := hN.cell (j := 5) rfl; have r6 := hN.cell (j := 6) rfl; have nl := hN.lt; clear hN; go_simp; try (with_reducible rfl))
            try simp only [Act.put, List.setIfInBounds_toArray, List.set_cons_zero, List.set_cons_succ]
            refine till_take 5 (v := ?_) rfl (by kernel_rfl) (fun _ _ _ h => h) (Or.inl ⟨by rfl, ?_⟩) hS ?_
            rotate_left
            focus (intro w' hSw; obtain ⟨hN, q1, q2, tl⟩ := hSw; have r0 := hN.cell (j := 0) rfl; have r1 := hN.cell (j := 1) rfl; have r2 := hN.cell (j := 2) rfl; have r3 := hN.cell (j := 3) rfl; have r4 := hN.cell (j := 4) rfl; have r5 := hN.cell (j := 5) rfl; have r6 := hN.cell (j := 6) rfl; have nl := hN.lt; clear hN; go_simp; try (with_reducible rfl))
            try simp only [Act.put, List.setIfInBounds_toArray, List.set_cons_zero, List.set_cons_succ]
            refine till_take 6 (v := ?_) rfl (by kernel_rfl) (fun _ _ _ h => h) (Or.inl ⟨by rfl, ?_⟩) hS ?_
            rotate_left
            focus (intro w' hSw; obtain ⟨hN, q1, q2, tl⟩ := hSw; have r0 := hN.cell (j := 0) rfl; have r1 := hN.cell (j := 1) rfl; have r2 := hN.cell (j := 2) rfl; have r3 := hN.cell (j := 3) rfl; have r4 := hN.cell (j := 4) rfl; have r5 := hN.cell (j := 5) rfl; have r6 := hN.cell (j := 6) rfl; have nl := hN.lt; clear hN; go_simp; try (with_reducible rfl))
            try simp only [Act.put, List.setIfInBounds_toArray, List.set_cons_zero, List.set_cons_succ]
            refine till_take 7 (v := ?_) rfl (by kernel_rfl) (fun _ _ _ h => h) (Or.inl ⟨by rfl, ?_⟩) hS ?_
            rotate_left
            focus (intro w' hSw; obtain ⟨hN, q1, q2, tl⟩ := hSw; have r0 := hN.cell (j := 0) rfl; have r1 := hN.cell (j := 1) rfl; have r2 := hN.cell (j := 2) rfl; have r3 := hN.cell (j := 3) rfl; have r4 := hN.cell (j := 4) rfl; have r5 := hN.cell (j := 5) rfl; have r6 := hN.cell (j := 6) rfl; have nl := hN.lt; clear hN; go_simp; try (with_reducible rfl))
            try simp only [Act.put, List.setIfInBounds_toArray, List.set_cons_zero, List.set_cons_succ]
            refine till_take 8 (v := ?_) rfl (by kernel_rfl) (fun _ _ _ h => h) (Or.inl ⟨by rfl, ?_⟩) hS ?_
            rotate_left
            focus (intro w' hSw; obtain ⟨hN, q1, q2, tl⟩ := hSw; have r0 := hN.cell (j := 0) rfl; have r1 := hN.cell (j := 1) rfl; have r2 := hN.cell (j := 2) rfl; have r3 := hN.cell (j := 3) rfl; have r4 := hN.cell (j := 4) rfl; have r5 := hN.cell (j := 5) rfl; have r6 := hN.cell (j := 6) rfl; have nl := hN.lt; clear hN; go_simp; try (with_reducible rfl))
            try simp only [Act.put, List.setIfInBounds_toArray, List.set_cons_zero, List.set_cons_succ]
            refine till_take 9 (v := ?_) rfl (by kernel_rfl) (fun _ _ _ h => h) (Or.inl ⟨by rfl, ?_⟩) hS ?_
            rotate_left
            focus (intro w' hSw; obtain ⟨hN, q1, q2, tl⟩ := hSw; have r0 := hN.cell (j := 0) rfl; have r1 := hN.cell (j := 1) rfl; have r2 := hN.cell (j := 2) rfl; have r3 := hN.cell (j := 3) rfl; have r4 := hN.cell (j := 4) rfl; have r5 := hN.cell (j := 5) rfl; have r6 := hN.cell (j := 6) rfl; have nl := hN.lt; clear hN; go_simp; try (with_reducible rfl))
            try simp only [Act.put, List.setIfInBounds_toArray, List.set_cons_zero, List.set_cons_succ]
            refine till_take 10 (v := ?_) rfl (by kernel_rfl) (fun _ _ _ h => h) (Or.inl ⟨by rfl, ?_⟩) hS ?_
            rotate_left
            focus (intro w' hSw; obtain ⟨hN, q1, q2, tl⟩ := hSw; have r0 := hN.cell (j := 0) rfl; have r1 := hN.cell (j := 1) rfl; have r2 := hN.cell (j := 2) rfl; have r3 := hN.cell (j := 3) rfl; have r4 := hN.cell (j := 4) rfl; have r5 := hN.cell (j := 5) rfl; have r6 := hN.cell (j := 6) rfl; have nl := hN.lt; clear hN; go_simp; try (with_reducible rfl))
            try simp only [Act.put, List.setIfInBounds_toArray, List.set_cons_zero, List.set_cons_succ]
            refine till_take 11 (v := ?_) rfl (by kernel_rfl) (fun _ _ _ h => h) (Or.inl ⟨by rfl, ?_⟩) hS ?_
            rotate_left
            focus (intro w' hSw; obtain ⟨hN, q1, q2, tl⟩ := hSw; have r0 := hN.cell (j := 0) rfl; have r1 := hN.cell (j := 1) rfl; have r2 := hN.cell (j := 2) rfl; have r3 := hN.cell (j := 3) rfl; have r4 := hN.cell (j := 4) rfl; have r5 := hN.cell (j := 5) rfl; have r6 := hN.cell (j := 6) rfl; have nl := hN.lt; clear hN; go_simp; try (with_reducible rfl))
            try simp only [Act.put, List.setIfInBounds_toArray, List.set_cons_zero, List.set_cons_succ]
            refine till_take 12 (v := ?_) rfl (by kernel_rfl) (fun _ _ _ h => h) (Or.inl ⟨by rfl, ?_⟩) hS ?_
            rotate_left
            focus (intro w' hSw; obtain ⟨hN, q1, q2, tl⟩ := hSw; have r0 := hN.cell (j := 0) rfl; have r1 := hN.cell (j := 1) rfl; have r2 := hN.cell (j := 2) rfl; have r3 := hN.cell (j := 3) rfl; have r4 := hN.cell (j := 4) rfl; have r5 := hN.cell (j := 5) rfl; have r6 := hN.cell (j := 6) rfl; have nl := hN.lt; clear hN; go_simp; try (with_reducible rfl))
            try simp only [Act.put, List.setIfInBounds_toArray, List.set_cons_zero, List.set_cons_succ]
            refine till_take 13 (v := ?_) rfl (by kernel_rfl) (fun _ _ _ h => h) (Or.inl ⟨by rfl, ?_⟩) hS ?_
            rotate_left
            focus (intro w' hSw; obtain ⟨hN, q1, q2, tl⟩ := hSw; have r0 := hN.cell (j := 0) rfl; have r1 := hN.cell (j := 1) rfl; have r2 := hN.cell (j := 2) rfl; have r3 := hN.cell (j := 3) rfl; have r4 := hN.cell (j := 4) rfl; have r5 := hN.cell (j := 5) rfl; have r6 := hN.cell (j := 6) rfl; have nl := hN.lt; clear hN; go_simp; try (with_reducible rfl))
            try simp only [Act.put, List.setIfInBounds_toArray, List.set_cons_zero, List.set_cons_succ]
            refine till_take 14 (v := ?_) rfl (by kernel_rfl) (fun _ _ _ h => h) (Or.inl ⟨by rfl, ?_⟩) hS ?_
            rotate_left
            focus (intro w' hSw; obtain ⟨hN, q1, q2, tl⟩ := hSw; have r0 := hN.cell (j := 0) rfl; have r1 := hN.cell (j := 1) rfl; have r2 := hN.cell (j := 2) rfl; have r3 := hN.cell (j := 3) rfl; have r4 := hN.cell (j := 4) rfl; have r5 := hN.cell (j := 5) rfl; have r6 := hN.cell (j := 6) rfl; have nl := hN.lt; clear hN; go_simp; try (with_reducible rfl))
            try simp only [Act.put, List.setIfInBounds_toArray, List.set_cons_zero, List.set_cons_succ]
            refine till_take 15 (v := ?_) rfl (by kernel_rfl) (fun _ _ _ h => h) (Or.inl ⟨by rfl, ?_⟩) hS ?_
            rotate_left
            focus (intro w' hSw; obtain ⟨hN, q1, q2, tl⟩ := hSw; have r0 := hN.cell (j := 0) rfl; have r1 := hN.cell (j := 1) rfl; have r2 := hN.cell (j := 2) rfl; have r3 := hN.cell (j := 3) rfl; have r4 := hN.cell (j := 4) rfl; have r5 := hN.cell (j := 5) rfl; have r6 := hN.cell (j := 6) rfl; have nl := hN.lt; clear hN; go_simp; try (with_reducible rfl))
            try simp only [Act.put, List.setIfInBounds_toArray, List.set_cons_zero, List.set_cons_succ]
            refine till_ready [16] (by kernel_rfl) (TillReady.cons 16 rfl (fun K hK => ?_) TillReady.nil)
            go_simp
            refine H19.out.mono ?_
            rintro e w9 ⟨rfl, m3, hG3, hgo3, -, -, hb3⟩
            refine (Hid.out hK) _ _ (fun h => absurd rfl h) ?_
            refine till_done (by kernel_rfl) ?_
            refine NoPanic.normal ?_
            have HG3 := Lib.hid hG3
            have HGO3 := Lib.hid hgo3
            have HB3 := Lib.hid (HB9.out.trans (((Below.refl W9.heap.size W9).drew.mono HB9.out.size).trans (hb3.mono HBW.out)))
            clear hS hS20 hG3 hgo3 hb3
            go_wp2
            go_tidy
            exact ⟨⟨n + 1, m3, rfl, HLT.out, HG3.out, HGO.out.trans HGO3.out, HB3.out⟩, by have := HLT.out; simp [intOf]; omega⟩
        · obtain rfl : n = ts.length := by omega
          go_upto_region 16 with fail
          clear f4 fl
          go_wp2
          go_loopw [12] (fun i wr => AgRel3 c B m0 w i wr) (fun i _ => m0.A.length - (intOf i).toNat)
          case atStart => exact ⟨0, m, rfl, Nat.zero_le _, HGm.out, HGO.out, Told.start m, (fun _ h => absurd h (Nat.lt_irrefl 0)), HBm.out⟩
          case round =>
            clear HGm HGO HBm HAV
            obtain ⟨i, m, rfl, hi, hG, hgo, htold, hemp, hb⟩ := hrel
            obtain ⟨wo, hwo⟩ : ∃ x, x = wr := ⟨_, rfl⟩
            subst hwo
            have hN : m.A.length = m0.A.length := by rw [hgo.A]
            have HGm := Lib.hid hG
            have HGO := Lib.hid hgo
            have HTO := Lib.hid htold
            have HEM := Lib.hid hemp
            have HBm := Lib.hid hb
            obtain ⟨aa, ac, hav⟩ := owns_slice' hG.at4.all
            have f4 := hG.at4.box.cell (j := 4) rfl
            rw [hav, hN] at f4
            have fl := hG.at4.box.lt
            have hA20 := hG.small
            rw [hN] at hA20
            clear hG hgo hb hav htold hemp
            rcases Nat.lt_or_ge i m0.A.length with hlt | hge
            · have hiI : (i : Int) < (m0.A.length : Int) := by omega
              have HLT := Lib.hid hlt
              clear hlt
              go_upto_region 19 with fail
              go_wp2
              go_loopw [13] (fun j wr => AgRel4 i c B m0 w j wr) (fun j _ => 16 - (intOf j).toNat)
              case atStart => exact ⟨0, m, rfl, by omega, HGm.out, HGO.out, HTO.out, fun _ t ht h => by omega, HBm.out⟩
              case round =>
                clear HGm HGO HTO HEM HBm f4 fl hN
                obtain ⟨j, m2, rfl, hj, hG, hgo, htold, hemp, hb⟩ := hrel
                have HTO := Lib.hid htold
                have HEM := Lib.hid hemp
                have HGO := Lib.hid hgo
                have HBm := Lib.hid hb
                have HGm := Lib.hid hG
                rcases Nat.lt_or_ge j 16 with hj16 | hj16
                · have hjI : (j : Int) < 16 := by omega
                  have hN : m2.A.length = m0.A.length := by rw [hgo.A]
                  obtain ⟨y, hy⟩ : ∃ y, m2.A[i]? = some y := ⟨_, List.getElem?_eq_getElem (by rw [hN]; exact HLT.out)⟩
                  obtain ⟨lk, lcap, hle, hlkl, hlcap⟩ := row_addr hG.at4.all (by rw [hN]; have := HLT.out; omega)
                  have f4 := hG.at4.box.cell (j := 4) rfl
                  rw [hle, hN] at f4
                  have fl := hG.at4.box.lt
                  obtain ⟨y0, y1, y2, y3, y4, y5, y6, yl⟩ := CellsR.of (by have := hG.at4.all; rw [hle] at this; exact this) hy
                  have h19 := c19 hG (List.mem_of_getElem? hy) (fr := j / 4) (tt := j % 4) (by omega) (by omega)
                  unfold oneV at h19
                  have e4 : (j : Int) / 4 = ((j / 4 : Nat) : Int) := by omega
                  have e5 : (j : Int) % 4 = ((j % 4 : Nat) : Int) := by omega
                  have HE := Lib.hid (And.intro e4 e5)
                  have H19 := Lib.hid h19
                  have HY := Lib.hid hy
                  have HN := Lib.hid hN
                  clear hG hgo hb htold hemp hy hle h19 e4 e5 hN hlcap
                  go_upto_region 21 with fail
                  rw [HE.out.1, HE.out.2]
                  refine H19.out.mono ?_
                  rintro e w6 ⟨rfl, m3, hG3, hgo3, hk3, hn3, hb3⟩
                  have HG3 := Lib.hid hG3
                  have HGO3 := Lib.hid hgo3
                  have HK3 := Lib.hid hk3
                  have HN3 := Lib.hid hn3
                  have HB3 := Lib.hid hb3
                  clear hG3 hgo3 hk3 hn3 hb3 y0 y1 y2 y3 y4 y5 y6 yl f4 fl hlkl
                  go_wp2_with fail
                  go_tidy
                  refine ⟨⟨j + 1, m3, rfl, hj16, HG3.out, HGO.out.trans HGO3.out, HTO.out.next HGO3.out (allOf_at HY.out) HK3.out, fun hl t ht h12 => ?_, ?_⟩, by simp [intOf]; omega⟩
                  · rcases Nat.lt_or_ge (12 + t) j with h1 | h1
                    · exact (HGO3.out.behind t).nil (HEM.out hl t ht h1)
                    · have ht' : t = j % 4 := by omega
                      rw [ht']
                      exact HN3.out (HTO.out.last HGm.out (allOf_at HY.out) (by unfold allOf; rw [List.length_map, HN.out]; exact hl) (by omega) hj16)
                  · exact HBm.out.trans (HB3.out.mono HBW.out)
                · obtain rfl : j = 16 := by omega
                  clear hG hgo hb htold hemp
                  go_wp2
                  go_tidy
                  exact ⟨⟨i + 1, m2, rfl, HLT.out, HGm.out, HGO.out, HTO.out.row, fun hl _ t ht => HEM.out hl t ht (by omega), HBm.out⟩, by have := HLT.out; simp [intOf]; omega⟩
            · obtain rfl : i = m0.A.length := by omega
              have hnil : ∀ t, t < 4 → (m.S t).L = [] := fun t ht => by
                rcases Nat.eq_zero_or_pos m0.A.length with h0 | h0
                · exact Goes.few HGm.out (by omega) ht
                · exact HEM.out rfl h0 t ht
              have HNIL := Lib.hid hnil
              clear hnil
              go_upto_region 23 with fail
              clear f4 fl
              go_wp2
              go_loopw [14] (fun i wr => AgRel5 wo i wr) (fun i _ => 4 - (intOf i).toNat)
              case atStart => exact ⟨0, rfl, by omega, Below.refl _ _⟩
              case round =>
                obtain ⟨g, rfl, hg4, hb5⟩ := hrel
                have HB5 := Lib.hid hb5
                clear hb5
                rcases Nat.lt_or_ge g 4 with hg | hg
                · have hgI : (g : Int) < 4 := by omega
                  have hg0 : ¬ (g : Int) < 0 := by omega
                  go_upto_region 26 with fail
                  go_wp2
                  go_loopw [15] (fun i wr => AgRel6 g wo i wr) (fun i _ => g - (intOf i).toNat)
                  case atStart => exact ⟨0, rfl, Nat.zero_le _, HB5.out⟩
                  case round =>
                    clear HB5
                    obtain ⟨k, rfl, hk, hb6⟩ := hrel
                    have HB6 := Lib.hid hb6
                    have hGw := HGm.out.below hb6
                    clear hb6
                    rcases Nat.lt_or_ge k g with hkg | hkg
                    · have hkI : (k : Int) < (g : Int) := by omega
                      have h20 := c20 hGw (g := g) (h := k) hg (by omega)
                      have H20 := Lib.hid h20
                      clear h20 hGw
                      go_wp2_with (first | (go_at_call 20; refine H20.out.mono ?_; rintro e w7 ⟨rfl, hb7⟩; have HB7 := Lib.hid hb7; clear hb7) | fail)
                      go_tidy
                      exact ⟨⟨k + 1, rfl, hkg, HB6.out.trans (HB7.out.mono HB6.out.size)⟩, by simp [intOf]; omega⟩
                    · obtain rfl : k = g := by omega
                      have kq := hGw.at4.box.cell (encC_at m hg).1
                      rw [hGw.at4.ptr k hg] at kq
                      have kl := hGw.at4.box.lt
                      have hMl : (m.M k).length ≤ 1000 := by have h1 := (hGw.at4.q k hg).len; rw [HNIL.out k hg] at h1; rw [h1]; exact Nat.zero_le _
                      have h17 := c17 (hGw.at4.q k hg) hMl
                      have hwn : waitingS k (m.S k) = [] := by unfold waitingS; rw [HNIL.out k hg]; unfold ord; simp
                      rw [hwn] at h17
                      have H17 := Lib.hid h17
                      clear h17 hGw hwn hMl
                      go_wp2_with (first | (go_at_call 17; refine H17.out.mono ?_; rintro e w7 ⟨v, rfl, ⟨va, vc, hvv, -⟩, hb7⟩; subst hvv; have HB7 := Lib.hid hb7; clear hb7) | fail)
                      go_tidy
                      exact ⟨⟨k + 1, rfl, hg, HB6.out.trans (HB7.out.mono HB6.out.size)⟩, by simp [intOf]; omega⟩
                · obtain rfl : g = 4 := by omega
                  go_wp2
                  go_tidy
                  exact HR.out _ _ ⟨rfl, HBm.out.trans (HB5.out.mono HBm.out.size)⟩
/-! ### The arguments as they come in -/
theorem weightsAll_mem {H : Type} {P : Program} {e : TypeId} {d : DataW H} {n : Nat} : ∀ {l : List (DataW H)}, d ∈ l → n ∈ d.weights P e → n ∈ DataW.weightsAll P e l
  | [], h, _ => by cases h
  | x :: l, h, hn => by
    unfold DataW.weightsAll
    rcases List.mem_cons.1 h with rfl | h
    · exact List.mem_append.2 (.inl hn)
    · exact List.mem_append.2 (.inr (weightsAll_mem h hn))
theorem bytes5 : Try.prog.bytesOf 5 = 1 := by kernel_rfl
theorem encO_drop (v : Nat → Value) {g : Nat} (hg : g < 4) : ((encO v).drop (g * 1)).take 1 = [v g] := by
  obtain rfl | rfl | rfl | rfl : g = 0 ∨ g = 1 ∨ g = 2 ∨ g = 3 := by omega
  all_goals rfl
theorem ord_sized {H : Type} {E : TypeId × Value → H} {w : World} {n : Nat} {cs : List Value} {y : DataW H × List MemPlace} (h : DataW.trod E Try.prog w 0 (fun _ => true) true n 41 cs = some y)
    (hw : (DataW.weights Try.prog 41 y.1).all (· ≤ reachBytes) = true) {o : Nat → List Int} {v : Nat → Value} (hO : OrdAt w o v) (hcs : cs = encO v) : ∀ g, g < 4 → (o g).length ≤ 140737488355328 := by
  intro g hg
  obtain ⟨xs, m, -, rfl, -, hlen, hx⟩ := DataW.trod_array Try.underlying41 h
  have h1 := hx g hg
  rw [cells40, hcs, encO_drop v hg, List.getElem?_eq_getElem (by omega)] at h1
  have hxm : xs[g] ∈ xs := List.getElem_mem _
  generalize xs[g] = x at h1 hxm
  obtain ⟨a, cap, hv, -⟩ := hO.row g hg
  rcases Go.Deep.open_slice Try.underlying40 h1 with ⟨h2, -⟩ | ⟨a', len, cap', m', q, D, Pl, h2, -, -, -, -, hxe, -⟩
  · rw [hv] at h2
    injection h2 with h2
    injection h2 with _ h3 _
    omega
  · rw [hv] at h2
    injection h2 with h2
    injection h2 with _ h3 _
    rw [List.all_eq_true] at hw
    have hmem : (len + (m' - len)) * Try.prog.bytesOf 5 ∈ DataW.weights Try.prog 41 (DataW.agg (xs.map (·.1))) := by
      unfold DataW.weights
      rw [Try.underlying41]
      refine weightsAll_mem (d := x.1) (List.mem_map_of_mem hxm) ?_
      rw [hxe]
      unfold DataW.weights
      rw [Try.underlying40]
      simp
    have := hw _ hmem
    rw [bytes5] at this
    simp only [decide_eq_true_eq] at this
    unfold reachBytes at this
    omega
theorem agreesArg (v0 v1 v2 : Value) (w : World) (a0 : ArgAt Try.prog 39 v0 w) (a1 : ArgAt Try.prog 41 v1 w) (a2 : ArgAt Try.prog 42 v2 w) {H : Type} {E : TypeId × Value → H} {n : Nat} {y : DataW H × List MemPlace}
    (h : DataW.trod E Try.prog w 0 (fun _ => true) true n 41 v1.cells.toList = some y) (hw : (DataW.weights Try.prog 41 y.1).all (· ≤ reachBytes) = true) :
    Calls Try.prog 4 #[v0, v1, v2] w fun e w' => e = .returned (.bool true) ∧ Below w.heap.size w w' := by
  obtain ⟨gv, gs, hgs, hv0, hG⟩ := a0.slice Try.underlying39 fun _ E => opensGroups E w
  simp at hv0
  subst hv0
  obtain ⟨cs, rfl, -, o, ov, hO, hcs⟩ := a1.array Try.underlying41 fun _ E => opens41 E w
  obtain ⟨tv, ts, hts, hv2, hT⟩ := a2.slice Try.underlying42 fun _ E => opens42 E w
  simp at hv2
  subst hv2
  have hsz := ord_sized h hw hO (by rw [← hcs]; rfl)
  subst hcs
  exact agreesWalk hG hgs hO hT hts hsz
end Go.Proofs.Ytamjdghjaimihaa
