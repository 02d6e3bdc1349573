/- Two groups have taken what they have in common in one order, with the same stamps. Conditions: each law's own. -/
import Derived.Test.YtamjdghjaimihaaATell
namespace Go.Proofs.Ytamjdghjaimihaa
open Go.ChangeShapes Go.WideShapes Go.ChangeAt Go.RowKit

def stE1 (z : IdD × Int) : List Value := [stE z]
theorem flat_stE (l : List (IdD × Int)) : l.flatMap stE1 = l.map stE := by
  induction l with
  | nil => rfl
  | cons a l ih => rw [List.flatMap_cons, ih]; rfl
theorem CAt.rowT {w : World} {c n : Nat} {m : CM} {B : Nat} (h : CAt w c n m B) {g : Nat} (hg : g < 4) : RowOf idE 2 w (m.t g) (m.T g) := RowOf.of_owns (fun _ => rfl) (h.t g hg) rfl
theorem CAt.rowF {w : World} {c n : Nat} {m : CM} {B : Nat} (h : CAt w c n m B) {g : Nat} (hg : g < 4) : RowOf stE1 1 w (m.f g) (m.U g) := RowOf.of_owns (fun _ => rfl) (by rw [flat_stE]; exact h.f g hg) rfl
/-- The cells of an element. -/
theorem RowOf.cells {α : Type} {enc : α → List Value} {k : Nat} {w : World} {v : Value} {xs : List α} (h : RowOf enc k w v xs) {i : Nat} {x : α} (hx : xs[i]? = some x) :
    ∃ b o cap, v = .slice (some ⟨b, o, none⟩) xs.length cap ∧ b < w.heap.size ∧ ∀ j u, (enc x)[j]? = some u → w.cell? ⟨b, o + i * k + j, none⟩ = some u := by
  obtain ⟨a, cap, hv, -, -, h3⟩ := h
  obtain ⟨b, o, rfl, hl, hc⟩ := h3 (by have := (List.getElem?_eq_some_iff.1 hx).1; omega)
  exact ⟨b, o, cap, hv, hl, fun j u hu => hc i j x u hx hu⟩
def AlRel1 (T U : List (IdD × Int)) (w : World) (k i : Value) (wr : World) : Prop := ∃ kn i0 : Nat, k = .int .i64 kn ∧ i = .int .i64 i0 ∧ i0 ≤ T.length ∧ kn ≤ U.length ∧ AlikeAt T U i0 0 kn ∧ Below w.heap.size w wr
def AlRel2 (T U : List (IdD × Int)) (i0 : Nat) (w : World) (k j : Value) (wr : World) : Prop := ∃ kn j0 : Nat, k = .int .i64 kn ∧ j = .int .i64 j0 ∧ j0 ≤ U.length ∧ kn ≤ U.length ∧ AlikeAt T U i0 j0 kn ∧ Below w.heap.size w wr
set_option maxHeartbeats 8000000 in
set_option maxRecDepth 1000000 in
theorem c20 {w : World} {c : Nat} {m : CM} {B : Nat} (hG : Good w c m B) {g h : Nat} (hg : g < 4) (hh : h < 4) :
    Calls Try.prog 20 #[.pointer (some ⟨c, 0, none⟩), .int .i64 g, .int .i64 h] w fun e w' => e = .returned (.bool true) ∧ Below w.heap.size w w' := by
  refine gen fun R hR => ?_
  have hT := hG.at4.rowT hg
  have hU := hG.at4.rowT hh
  have hTf := hG.at4.rowF hg
  have hUf := hG.at4.rowF hh
  rw [hG.tu] at hTf hUf
  have hbox := hG.at4.box
  have hcells : ∀ W, Below w.heap.size w W → (W.cell? ⟨c, 5 + g, none⟩ = some (m.t g) ∧ W.cell? ⟨c, 5 + h, none⟩ = some (m.t h)) ∧ (W.cell? ⟨c, 9 + g, none⟩ = some (m.f g) ∧ W.cell? ⟨c, 9 + h, none⟩ = some (m.f h)) ∧ c < W.heap.size := fun W hb => by
    have hb2 := hbox.keep hb hbox.lt
    exact ⟨⟨hb2.cell (encC_at m hg).2.1, hb2.cell (encC_at m hh).2.1⟩, ⟨hb2.cell (encC_at m hg).2.2, hb2.cell (encC_at m hh).2.2⟩, hb2.lt⟩
  have hTs := (hG.take g hg).sorted
  have hUs := (hG.take h hh).sorted
  have hkey : ∀ t u, t ∈ m.T g → u ∈ m.T h → t.1 = u.1 → t = u := fun t u ht hu e => key_eq hG.apart ((hG.take g hg).taken t ht) ((hG.take h hh).taken u hu) e
  have hTl : (m.T g).length ≤ 20 := by have := hG.few g hg; have := hG.small; omega
  have hUl : (m.T h).length ≤ 20 := by have := hG.few h hh; have := hG.small; omega
  have hgi : (g : Int) < 4 := by omega
  have hhi : (h : Int) < 4 := by omega
  have hg0 : ¬ (g : Int) < 0 := by omega
  have hh0 : ¬ (h : Int) < 0 := by omega
  obtain ⟨ta, tc, htv, -⟩ := _root_.id hT
  obtain ⟨ua, uc, huv, -⟩ := _root_.id hU
  have HT := Lib.hid hT
  have HU := Lib.hid hU
  have HTF := Lib.hid hTf
  have HUF := Lib.hid hUf
  have HC := Lib.hid hcells
  have HTS := Lib.hid hTs
  have HUS := Lib.hid hUs
  have HKEY := Lib.hid hkey
  have HR := Lib.hid hR
  have HTV := Lib.hid htv
  have HUV := Lib.hid huv
  clear hG hT hU hTf hUf hbox hcells hTs hUs hkey hR htv huv
  go_enter Try.func20, Try.ntmps20
  go_wp2
  go_loopw [7, 8] (fun k i wr => AlRel1 (m.T g) (m.T h) w k i wr) (fun _ i _ => (m.T g).length - (intOf i).toNat)
  case atStart => exact ⟨0, 0, rfl, rfl, Nat.zero_le _, Nat.zero_le _, AlikeAt.start _ _, Below.refl _ _⟩
  case round =>
    obtain ⟨kn, i0, rfl, rfl, hi0, hk0, hal, hb⟩ := hrel
    have HB := Lib.hid hb
    have HAL := Lib.hid hal
    obtain ⟨⟨e1, e2⟩, ⟨e3, e4⟩, cl⟩ := HC.out wr hb
    rw [HTV.out] at e1
    clear hb hal e2 e3 e4
    rcases Nat.lt_or_ge i0 (m.T g).length with hlt | hge
    · have hiI : (i0 : Int) < ((m.T g).length : Int) := by omega
      obtain ⟨t, ht⟩ : ∃ t, (m.T g)[i0]? = some t := ⟨_, List.getElem?_eq_getElem hlt⟩
      have HI := Lib.hid ht
      have HLT := Lib.hid hlt
      clear ht hlt
      go_wp2
      go_loopw [7, 9] (fun k j wr => AlRel2 (m.T g) (m.T h) i0 w k j wr) (fun _ j _ => (m.T h).length - (intOf j).toNat)
      case atStart => exact ⟨kn, 0, rfl, rfl, Nat.zero_le _, hk0, HAL.out, HB.out⟩
      case round =>
        obtain ⟨k2, j0, rfl, rfl, hj0, hk2, hal2, hb2⟩ := hrel
        have HB2 := Lib.hid hb2
        have HAL2 := Lib.hid hal2
        obtain ⟨⟨e1, e2⟩, ⟨e3, e4⟩, cl⟩ := HC.out wr hb2
        clear hal2
        rcases Nat.lt_or_ge j0 (m.T h).length with hjl | hjg
        · have hjI : (j0 : Int) < ((m.T h).length : Int) := by omega
          obtain ⟨u, hu⟩ : ∃ u, (m.T h)[j0]? = some u := ⟨_, List.getElem?_eq_getElem hjl⟩
          have HJ := Lib.hid hu
          have HJL := Lib.hid hjl
          obtain ⟨tb, to', tcap, htv, htl, htc⟩ := (HT.out.keep hb2).cells HI.out
          obtain ⟨ub, uo, ucap, huv, hul, huc⟩ := (HU.out.keep hb2).cells hu
          rw [htv] at e1
          rw [huv] at e2
          have t0 := htc 0 _ rfl
          have t1 := htc 1 _ rfl
          have u0 := huc 0 _ rfl
          rw [Nat.add_zero] at t0 u0
          have u1 := huc 1 _ rfl
          have hne := neq31 t.1 u.1
          by_cases heq : t.1 = u.1
          · have htu : t = u := HKEY.out t u (List.mem_of_getElem? HI.out) (List.mem_of_getElem? hu) heq
            subst htu
            obtain ⟨hkj, hal3⟩ := HAL2.out.hit HTS.out HUS.out HI.out hu
            have HAL3 := Lib.hid hal3
            have hdt : decide (t.1 = t.1) = true := decide_eq_true rfl
            rw [hdt] at hne
            simp only [Bool.not_true] at hne
            have hkf : decide ((j0 : Int) < (k2 : Int)) = false := decide_eq_false (by omega)
            obtain ⟨fb, fo, fcap, hfv, hfl, hfc⟩ := (HTF.out.keep hb2).cells HI.out
            obtain ⟨gb, go', gcap, hgv, hgl, hgc⟩ := (HUF.out.keep hb2).cells hu
            rw [hfv] at e3
            rw [hgv] at e4
            have f0 := hfc 0 _ rfl
            have g0 := hgc 0 _ rfl
            rw [Nat.mul_one, Nat.add_zero] at f0 g0
            clear htv huv htc huc hu hjl hal3 hdt hfv hgv hfc hgc hb2 heq
            unfold stE at f0 g0
            go_upto_region 8 with fail
            go_quiet (fail)
            go_upto_region 9 with fail
            go_quiet (fail)
            have HBW := Lib.hid (fun n => HB2.out.trans ((drewN_below wr n).mono HB2.out.size))
            go_wp2
            go_tidy
            exact ⟨⟨j0, j0 + 1, rfl, rfl, HJL.out, hj0, HAL3.out, HBW.out _⟩, by have := HJL.out; simp [intOf]; omega⟩
          · have hdf : decide (t.1 = u.1) = false := decide_eq_false heq
            rw [hdf] at hne
            simp only [Bool.not_false] at hne
            clear htv huv htc huc hu hjl hdf hb2 heq
            go_upto_region 8 with fail
            go_quiet (fail)
            have HBW := Lib.hid (fun n => HB2.out.trans ((drewN_below wr n).mono HB2.out.size))
            go_wp2
            go_tidy
            exact ⟨⟨k2, j0 + 1, rfl, rfl, HJL.out, hk2, HAL2.out.next, HBW.out _⟩, by have := HJL.out; simp [intOf]; omega⟩
        · obtain rfl : j0 = (m.T h).length := by omega
          rw [HUV.out] at e2
          clear hb2
          go_wp2
          go_tidy
          refine ⟨⟨k2, i0 + 1, rfl, rfl, HLT.out, hk2, HAL2.out.row, HB2.out⟩, by have := HLT.out; simp [intOf]; omega⟩
    · obtain rfl : i0 = (m.T g).length := by omega
      go_wp2
      go_tidy
      exact HR.out _ _ ⟨rfl, HB.out⟩
end Go.Proofs.Ytamjdghjaimihaa
