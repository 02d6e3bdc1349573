/- The reference: one's stamp. Conditions: each law's own. -/
import Derived.Test.YtamjdghjaimihaaRStamp
namespace Go.Proofs.Ytamjdghjaimihaa
open Go.ChangeShapes Go.WideShapes Go.ChangeAt Go.RowKit

def mxTo (kn : Int → Int) (g : Int) : Nat → Int
  | 0 => kn g
  | j + 1 => max (mxTo kn g j) (kn j)
theorem mxTo_top {o : OneD} {g : Int} (hg : 0 ≤ g ∧ g < 4) : mxTo o.kn g 4 = topS o := by
  have : g = 0 ∨ g = 1 ∨ g = 2 ∨ g = 3 := by omega
  have h0 : ((0 : Nat) : Int) = 0 := rfl
  have h1 : ((1 : Nat) : Int) = 1 := rfl
  have h2 : ((2 : Nat) : Int) = 2 := rfl
  have h3 : ((3 : Nat) : Int) = 3 := rfl
  unfold topS mxTo mxTo mxTo mxTo mxTo
  rw [h0, h1, h2, h3]
  rcases this with rfl | rfl | rfl | rfl <;> omega
def StampE (v : Int) (w : World) (e : Ending) (w' : World) : Prop := e = .returned (.int .u64 v) ∧ Below w.heap.size w w'
set_option maxHeartbeats 8000000 in
set_option maxRecDepth 100000 in
theorem c45 {w : World} {b : Nat} {g : Int} {cv lv : Value} {y : RefO} (hy : VarAt w b 64 [.int .i64 g, cv, lv]) (hg : 0 ≤ g ∧ g < 4) (h : GOk y w) : Calls Try.prog 45 #[.pointer (some ⟨b, 0, none⟩), oneV y] w (StampE (stampS g y.1) w) := by
  refine gen (S := StampE (stampS g y.1) w) fun R hR => ?_
  have hb : Below w.heap.size w (w.alloc (.cells (encR y).toArray 55)) := (Below.refl _ _).alloc (Nat.le_refl _) _
  have hI := VarAt.new w 55 (encR y)
  have h44 := fun W (hb : Below w.heap.size w W) => c44 (h.below hb)
  have hout : ∀ v W, v = stampS g y.1 → Below w.heap.size w W → R (.returned (.int .u64 v)) W := fun v W hv hb => hR _ _ ⟨by rw [hv], hb⟩
  have END := Lib.hid hout
  have hmx := mxTo_top (o := y.1) hg
  obtain ⟨⟨id, groups, kn⟩, v⟩ := y
  obtain ⟨a, cap, hv, -⟩ := _root_.id h.row
  simp only at hv
  subst hv
  simp only [oneV] at h44 ⊢
  have y0 := (hy.keep hb hy.lt).cell (j := 0) rfl
  have yl := (hy.keep hb hy.lt).lt
  obtain ⟨W0, hW0⟩ : ∃ W0 : World, W0 = w.alloc (.cells (encR (⟨id, groups, kn⟩, .slice a groups.length cap)).toArray 55) := ⟨_, rfl⟩
  have hy0 := hy
  have HB := Lib.hid hb
  have HI := Lib.hid hI
  have H44 := Lib.hid h44
  have HMX := Lib.hid hmx
  have e0 := hI.cell (j := 0) rfl
  have e1 := hI.cell (j := 1) rfl
  have e2 := hI.cell (j := 2) rfl
  have e3 := hI.cell (j := 3) rfl
  have e4 := hI.cell (j := 4) rfl
  have e5 := hI.cell (j := 5) rfl
  have e6 := hI.cell (j := 6) rfl
  have el := hI.lt
  unfold encR at e0 e1 e2 e3 e4 e5 e6 el y0 yl hW0
  simp only at e0 e1 e2 e3 e4 e5 e6 el y0 yl hW0
  have hg4 : g = 0 ∨ g = 1 ∨ g = 2 ∨ g = 3 := by omega
  have HG := Lib.hid hg4
  clear h hR hb hI h44 hy hmx hout hg4
  cases hf : final ⟨id, groups, kn⟩ with
  | false =>
    have hst : stampS g ⟨id, groups, kn⟩ = kn g := by unfold stampS; rw [hf]; rfl
    have HST := Lib.hid hst
    rw [hf] at H44
    clear hst hf
    rcases HG.out with rfl | rfl | rfl | rfl
    all_goals
      go_enter Try.func45, Try.ntmps45
      go_wp2
      go_loopw [5, 6] (fun s i wr => s = .int .u64 (kn _) ∧ i = .int .i64 0 ∧ wr = W0) (fun _ _ _ => 0)
      case atStart => exact ⟨rfl, rfl, hW0.symm⟩
      case round =>
        obtain ⟨rfl, rfl, rfl⟩ := hrel
        rw [hW0]
        go_wp2_with (first | (go_at_call 44; refine (H44.out _ HB.out).mono ?_; rintro e w2 ⟨rfl, hb2⟩; have HB2 := Lib.hid (HB.out.trans (hb2.mono HB.out.size)); clear hb2) | fail)
        go_tidy
        exact END.out _ _ HST.out.symm HB2.out
  | true =>
    have hst : stampS g ⟨id, groups, kn⟩ = mxTo kn g 4 := by unfold stampS; rw [hf, HMX.out]; rfl
    obtain ⟨G, hG⟩ : ∃ G : Int, G = g := ⟨_, rfl⟩
    have hm0 : mxTo kn G 0 = kn g := by rw [hG]; rfl
    have HM0 := Lib.hid hm0
    have HST := Lib.hid (show stampS g ⟨id, groups, kn⟩ = mxTo kn G 4 by rw [hG]; exact hst)
    rw [hf] at H44
    have HI2 := Lib.hid (hW0 ▸ HI.out)
    have HB2 := Lib.hid (hW0 ▸ HB.out)
    have nx : ∀ j : Nat, mxTo kn G (j + 1) = max (mxTo kn G j) (kn j) := fun _ => rfl
    have NX := Lib.hid nx
    have Y0 := Lib.hid hy0
    clear hst hf hG hm0 nx hy0
    rcases HG.out with rfl | rfl | rfl | rfl
    all_goals
      go_enter Try.func45, Try.ntmps45
      go_wp2
      clear e0 e1 e2 e3 e4 e5 e6 el y0 yl
      rw [← hW0]
      go_loopw [5, 6] (fun s i wr => ∃ j : Nat, j ≤ 4 ∧ s = .int .u64 (mxTo kn G j) ∧ i = .int .i64 j ∧ Below w.heap.size w wr ∧ VarAt wr w.heap.size 55 [.int .i64 id.s, .int .i64 id.q, .slice a groups.length cap, .int .u64 (kn 0), .int .u64 (kn 1), .int .u64 (kn 2), .int .u64 (kn 3)]) (fun _ i _ => 4 - (intOf i).toNat)
      case atStart => exact ⟨0, by omega, by rw [HM0.out], rfl, HB2.out, HI2.out⟩
      case round =>
        obtain ⟨j, hj, rfl, rfl, hbr, hir⟩ := hrel
        have hj5 : j = 0 ∨ j = 1 ∨ j = 2 ∨ j = 3 ∨ j = 4 := by omega
        have HBR := Lib.hid hbr
        have HIR := Lib.hid hir
        have e0 := hir.cell (j := 0) rfl
        have e1 := hir.cell (j := 1) rfl
        have e2 := hir.cell (j := 2) rfl
        have e3 := hir.cell (j := 3) rfl
        have e4 := hir.cell (j := 4) rfl
        have e5 := hir.cell (j := 5) rfl
        have e6 := hir.cell (j := 6) rfl
        have el := hir.lt
        clear hj hbr hir
        have J5 := Lib.hid hj5
        clear hj5
        rcases J5.out with rfl | rfl | rfl | rfl | rfl
        rotate_left 4
        · go_wp2
          go_tidy
          exact END.out _ _ HST.out.symm HBR.out
        · have hnx : mxTo kn G 1 = max (mxTo kn G 0) (kn 0) := NX.out 0
          obtain ⟨s, hs⟩ : ∃ s, s = mxTo kn G 0 := ⟨_, rfl⟩
          rw [← hs] at hnx ⊢
          have HNX := Lib.hid hnx
          clear hs hnx
          by_cases hgt : s < kn 0
          · have HS := Lib.hid (show kn 0 = mxTo kn G 1 by rw [HNX.out]; omega)
            go_wp2_with (first | (go_at_call 44; refine (H44.out _ HBR.out).mono ?_; rintro e w2 ⟨rfl, hb2⟩; have hir2 := HIR.out.keep hb2 HIR.out.lt; have e3 := hir2.cell (j := 3) rfl; have e4 := hir2.cell (j := 4) rfl; have e5 := hir2.cell (j := 5) rfl; have e6 := hir2.cell (j := 6) rfl; have el := hir2.lt; have HIR2 := Lib.hid hir2; have HB3 := Lib.hid (HBR.out.trans (hb2.mono HBR.out.size)); clear hb2 hir2) | fail)
            go_tidy
            exact ⟨⟨1, by omega, by rw [HS.out], rfl, HB3.out, HIR2.out⟩, by simp [intOf]⟩
          · have HS := Lib.hid (show s = mxTo kn G 1 by rw [HNX.out]; omega)
            go_wp2_with (first | (go_at_call 44; refine (H44.out _ HBR.out).mono ?_; rintro e w2 ⟨rfl, hb2⟩; have hir2 := HIR.out.keep hb2 HIR.out.lt; have e3 := hir2.cell (j := 3) rfl; have e4 := hir2.cell (j := 4) rfl; have e5 := hir2.cell (j := 5) rfl; have e6 := hir2.cell (j := 6) rfl; have el := hir2.lt; have HIR2 := Lib.hid hir2; have HB3 := Lib.hid (HBR.out.trans (hb2.mono HBR.out.size)); clear hb2 hir2) | fail)
            go_tidy
            exact ⟨⟨1, by omega, by rw [HS.out], rfl, HB3.out, HIR2.out⟩, by simp [intOf]⟩
        · have hnx : mxTo kn G 2 = max (mxTo kn G 1) (kn 1) := NX.out 1
          obtain ⟨s, hs⟩ : ∃ s, s = mxTo kn G 1 := ⟨_, rfl⟩
          rw [← hs] at hnx ⊢
          have HNX := Lib.hid hnx
          clear hs hnx
          by_cases hgt : s < kn 1
          · have HS := Lib.hid (show kn 1 = mxTo kn G 2 by rw [HNX.out]; omega)
            go_wp2_with (first | (go_at_call 44; refine (H44.out _ HBR.out).mono ?_; rintro e w2 ⟨rfl, hb2⟩; have hir2 := HIR.out.keep hb2 HIR.out.lt; have e3 := hir2.cell (j := 3) rfl; have e4 := hir2.cell (j := 4) rfl; have e5 := hir2.cell (j := 5) rfl; have e6 := hir2.cell (j := 6) rfl; have el := hir2.lt; have HIR2 := Lib.hid hir2; have HB3 := Lib.hid (HBR.out.trans (hb2.mono HBR.out.size)); clear hb2 hir2) | fail)
            go_tidy
            exact ⟨⟨2, by omega, by rw [HS.out], rfl, HB3.out, HIR2.out⟩, by simp [intOf]⟩
          · have HS := Lib.hid (show s = mxTo kn G 2 by rw [HNX.out]; omega)
            go_wp2_with (first | (go_at_call 44; refine (H44.out _ HBR.out).mono ?_; rintro e w2 ⟨rfl, hb2⟩; have hir2 := HIR.out.keep hb2 HIR.out.lt; have e3 := hir2.cell (j := 3) rfl; have e4 := hir2.cell (j := 4) rfl; have e5 := hir2.cell (j := 5) rfl; have e6 := hir2.cell (j := 6) rfl; have el := hir2.lt; have HIR2 := Lib.hid hir2; have HB3 := Lib.hid (HBR.out.trans (hb2.mono HBR.out.size)); clear hb2 hir2) | fail)
            go_tidy
            exact ⟨⟨2, by omega, by rw [HS.out], rfl, HB3.out, HIR2.out⟩, by simp [intOf]⟩
        · have hnx : mxTo kn G 3 = max (mxTo kn G 2) (kn 2) := NX.out 2
          obtain ⟨s, hs⟩ : ∃ s, s = mxTo kn G 2 := ⟨_, rfl⟩
          rw [← hs] at hnx ⊢
          have HNX := Lib.hid hnx
          clear hs hnx
          by_cases hgt : s < kn 2
          · have HS := Lib.hid (show kn 2 = mxTo kn G 3 by rw [HNX.out]; omega)
            go_wp2_with (first | (go_at_call 44; refine (H44.out _ HBR.out).mono ?_; rintro e w2 ⟨rfl, hb2⟩; have hir2 := HIR.out.keep hb2 HIR.out.lt; have e3 := hir2.cell (j := 3) rfl; have e4 := hir2.cell (j := 4) rfl; have e5 := hir2.cell (j := 5) rfl; have e6 := hir2.cell (j := 6) rfl; have el := hir2.lt; have HIR2 := Lib.hid hir2; have HB3 := Lib.hid (HBR.out.trans (hb2.mono HBR.out.size)); clear hb2 hir2) | fail)
            go_tidy
            exact ⟨⟨3, by omega, by rw [HS.out], rfl, HB3.out, HIR2.out⟩, by simp [intOf]⟩
          · have HS := Lib.hid (show s = mxTo kn G 3 by rw [HNX.out]; omega)
            go_wp2_with (first | (go_at_call 44; refine (H44.out _ HBR.out).mono ?_; rintro e w2 ⟨rfl, hb2⟩; have hir2 := HIR.out.keep hb2 HIR.out.lt; have e3 := hir2.cell (j := 3) rfl; have e4 := hir2.cell (j := 4) rfl; have e5 := hir2.cell (j := 5) rfl; have e6 := hir2.cell (j := 6) rfl; have el := hir2.lt; have HIR2 := Lib.hid hir2; have HB3 := Lib.hid (HBR.out.trans (hb2.mono HBR.out.size)); clear hb2 hir2) | fail)
            go_tidy
            exact ⟨⟨3, by omega, by rw [HS.out], rfl, HB3.out, HIR2.out⟩, by simp [intOf]⟩
        · have hnx : mxTo kn G 4 = max (mxTo kn G 3) (kn 3) := NX.out 3
          obtain ⟨s, hs⟩ : ∃ s, s = mxTo kn G 3 := ⟨_, rfl⟩
          rw [← hs] at hnx ⊢
          have HNX := Lib.hid hnx
          clear hs hnx
          by_cases hgt : s < kn 3
          · have HS := Lib.hid (show kn 3 = mxTo kn G 4 by rw [HNX.out]; omega)
            go_wp2_with (first | (go_at_call 44; refine (H44.out _ HBR.out).mono ?_; rintro e w2 ⟨rfl, hb2⟩; have hir2 := HIR.out.keep hb2 HIR.out.lt; have e3 := hir2.cell (j := 3) rfl; have e4 := hir2.cell (j := 4) rfl; have e5 := hir2.cell (j := 5) rfl; have e6 := hir2.cell (j := 6) rfl; have el := hir2.lt; have HIR2 := Lib.hid hir2; have HB3 := Lib.hid (HBR.out.trans (hb2.mono HBR.out.size)); clear hb2 hir2) | fail)
            go_tidy
            exact ⟨⟨4, by omega, by rw [HS.out], rfl, HB3.out, HIR2.out⟩, by simp [intOf]⟩
          · have HS := Lib.hid (show s = mxTo kn G 4 by rw [HNX.out]; omega)
            go_wp2_with (first | (go_at_call 44; refine (H44.out _ HBR.out).mono ?_; rintro e w2 ⟨rfl, hb2⟩; have hir2 := HIR.out.keep hb2 HIR.out.lt; have e3 := hir2.cell (j := 3) rfl; have e4 := hir2.cell (j := 4) rfl; have e5 := hir2.cell (j := 5) rfl; have e6 := hir2.cell (j := 6) rfl; have el := hir2.lt; have HIR2 := Lib.hid hir2; have HB3 := Lib.hid (HBR.out.trans (hb2.mono HBR.out.size)); clear hb2 hir2) | fail)
            go_tidy
            exact ⟨⟨4, by omega, by rw [HS.out], rfl, HB3.out, HIR2.out⟩, by simp [intOf]⟩
end Go.Proofs.Ytamjdghjaimihaa
