/- The law JudgeTells: its walk. Conditions: each law's own. -/
import Derived.Test.YtmdfilffoomckaaFew
import Derived.Test.YtmdfilffoomckaaSerial
import Derived.Test.YtmdfilffoomckaaSnaps
import Derived.Test.YtmdfilffoomckaaOpens
namespace Go.Proofs.Ytmdfilffoomckaa
open Go.ChangeShapes Go.WideShapes Go.ChangeAt Go.RowKit

def TellB (P : Prop) (w : World) (e : Ending) (w' : World) : Prop := ∃ b : Bool, e = .returned (.bool b) ∧ (b = true ↔ P) ∧ Below w.heap.size w w'
/-- Two variables of three cells each. -/
structure Two3 (b1 b2 : Nat) (x0 x1 x2 y0 y1 y2 : Value) (W : World) : Prop where
  a0 : W.cell? ⟨b1, 0, none⟩ = some x0
  a1 : W.cell? ⟨b1, 1, none⟩ = some x1
  a2 : W.cell? ⟨b1, 2, none⟩ = some x2
  e0 : W.cell? ⟨b2, 0, none⟩ = some y0
  e1 : W.cell? ⟨b2, 1, none⟩ = some y1
  e2 : W.cell? ⟨b2, 2, none⟩ = some y2
set_option maxHeartbeats 8000000 in
set_option maxRecDepth 100000 in
theorem c5 {w : World} {h : HistD} (ok : HistOk w h) : Calls Try.prog 5 #[h.agg] w fun e w' => e = .returned (.bool true) ∧ Below w.heap.size w w' := by
  refine gen fun R hR => ?_
  have h9 := fun W (hb : Below w.heap.size w W) => c9 (ok.keep hb)
  have h10 := fun W (hb : Below w.heap.size w W) => c10 (ok.keep hb)
  have t18 := fun W (hb : Below w.heap.size w W) => c18 (ok.keep hb)
  have t20 := fun W (hb : Below w.heap.size w W) => c20 (ok.keep hb)
  have t22 := fun W (hb : Below w.heap.size w W) => c22 (ok.keep hb)
  generalize hP1 : Single h.done = P1 at *
  generalize hP2 : Serial h.done h.seen = P2 at *
  generalize hP3 : Snapshots h.done h.snaps = P3 at *
  have HP1 := Lib.hid hP1
  have HP2 := Lib.hid hP2
  have HP3 := Lib.hid hP3
  clear hP1 hP2 hP3 ok
  obtain ⟨ds, seen, snaps, da, dc, sa, sc, na, nc⟩ := h
  simp only [HistD.agg, HistD.dv, HistD.sv, HistD.nv] at h9 h10 t18 t20 t22 ⊢
  have H10 := Lib.hid h10
  have T18 := Lib.hid t18
  have T20 := Lib.hid t20
  have T22 := Lib.hid t22
  clear h10 t18 t20 t22
  go_enter Try.func5, Try.ntmps5
  go_wp2_with fail
  refine (c8 _).mono ?_
  rintro e w1 ⟨rfl, hb1⟩
  have HV1 := Lib.hid ((VarAt.new w 26 [.slice da ds.length dc, .slice sa seen.length sc, .slice na snaps.length nc]).keep hb1 (by simp))
  have HB1 := Lib.hid ((below1 w (.cells #[.slice da ds.length dc, .slice sa seen.length sc, .slice na snaps.length nc] 26)).trans (hb1.mono (by simp)))
  have hV1 := HV1.out
  have v0 := hV1.cell (j := 0) rfl
  have v1 := hV1.cell (j := 1) rfl
  have v2 := hV1.cell (j := 2) rfl
  have vl := hV1.lt
  clear hV1 hb1
  go_wp2_with fail
  refine (h9 w1 HB1.out).mono ?_
  rintro e w2 ⟨b, rfl, hfew, hb2⟩
  have HV2 := Lib.hid (HV1.out.keep hb2 vl)
  have HB2 := Lib.hid (HB1.out.trans (hb2.mono HB1.out.size))
  clear v0 v1 v2 vl h9
  cases b with
  | false =>
    clear hfew
    go_wp2_with fail
    refine (c8 _).mono ?_
    rintro e w3 ⟨rfl, hb3⟩
    go_wp2_with fail
    go_tidy
    exact ⟨rfl, HB2.out.trans (hb3.mono HB2.out.size)⟩
  | true =>
    obtain ⟨f1, f2, f3⟩ := hfew rfl
    simp only at f1 f2 f3
    have hV2 := HV2.out
    have v0 := hV2.cell (j := 0) rfl
    have v1 := hV2.cell (j := 1) rfl
    have v2 := hV2.cell (j := 2) rfl
    have vl := hV2.lt
    clear hV2 hb2
    go_wp2_with fail
    refine (H10.out w2 HB2.out f1 f2 f3).mono ?_
    rintro e w3 ⟨h', rfl, e1, e2, e3, hok, hb3⟩
    simp only at e1 e2 e3
    have HV3 := Lib.hid (HV2.out.keep hb3 vl)
    have HB3 := Lib.hid (HB2.out.trans (hb3.mono HB2.out.size))
    have u19 := fun W (hb : Below w3.heap.size w3 W) => c19 (hok.keep hb)
    have u21 := fun W (hb : Below w3.heap.size w3 W) => c21 (hok.keep hb) (by rw [e1]; exact f1)
    have u23 := fun W (hb : Below w3.heap.size w3 W) => c23 (hok.keep hb) (by rw [e1]; exact f1)
    rw [e1] at u19
    rw [e1, e2] at u21
    rw [e1, e3] at u23
    have k1 : Single ds = P1 := HP1.out
    have k2 : Serial ds seen = P2 := HP2.out
    have k3 : Snapshots ds snaps = P3 := HP3.out
    rw [k1] at u19
    rw [k2] at u21
    rw [k3] at u23
    clear k1 k2 k3 e1 e2 e3 hok hb3 v0 v1 v2 vl
    obtain ⟨ds', seen', snaps', a1, q1, a2, q2, a3, q3⟩ := h'
    simp only [HistD.agg, HistD.dv, HistD.sv, HistD.nv] at u19 u21 u23 ⊢
    have hl3 := HV3.out.lt
    go_upto_region 4 with fail
    generalize hW : w3.alloc _ = w4
    have hV4 : VarAt w4 w.heap.size 26 [.slice da ds.length dc, .slice sa seen.length sc, .slice na snaps.length nc] := by rw [← hW]; exact HV3.out.alloc _
    have hX4 : VarAt w4 w3.heap.size 34 [.slice a1 ds'.length q1, .slice a2 seen'.length q2, .slice a3 snaps'.length q3] := by rw [← hW]; exact VarAt.new w3 34 _
    have hb34 : Below w3.heap.size w3 w4 := by rw [← hW]; exact below1 _ _
    have hB4 := HB3.out.trans (hb34.mono HB3.out.size)
    have sk : ∀ W, Below w4.heap.size w4 W → Two3 w.heap.size w3.heap.size (.slice da ds.length dc) (.slice sa seen.length sc) (.slice na snaps.length nc) (.slice a1 ds'.length q1) (.slice a2 seen'.length q2) (.slice a3 snaps'.length q3) W := fun W hb =>
      have g1 := hV4.keep hb hV4.lt
      have g2 := hX4.keep hb hX4.lt
      ⟨g1.cell (j := 0) rfl, g1.cell (j := 1) rfl, g1.cell (j := 2) rfl, g2.cell (j := 0) rfl, g2.cell (j := 1) rfl, g2.cell (j := 2) rfl⟩
    have t18 : ∀ W, Below w4.heap.size w4 W → Calls Try.prog 18 #[.agg #[.slice da ds.length dc, .slice sa seen.length sc, .slice na snaps.length nc]] W (TellB P1 w4) := fun W hb => (T18.out W (hB4.trans (hb.mono hB4.size))).mono fun e w' ⟨b, h1, h2, h3⟩ => ⟨b, h1, h2, hb.trans (h3.mono hb.size)⟩
    have t20 : ∀ W, Below w4.heap.size w4 W → Calls Try.prog 20 #[.agg #[.slice da ds.length dc, .slice sa seen.length sc, .slice na snaps.length nc]] W (TellB P2 w4) := fun W hb => (T20.out W (hB4.trans (hb.mono hB4.size)) f1).mono fun e w' ⟨b, h1, h2, h3⟩ => ⟨b, h1, h2, hb.trans (h3.mono hb.size)⟩
    have t22 : ∀ W, Below w4.heap.size w4 W → Calls Try.prog 22 #[.agg #[.slice da ds.length dc, .slice sa seen.length sc, .slice na snaps.length nc]] W (TellB P3 w4) := fun W hb => (T22.out W (hB4.trans (hb.mono hB4.size)) f1).mono fun e w' ⟨b, h1, h2, h3⟩ => ⟨b, h1, h2, hb.trans (h3.mono hb.size)⟩
    have t19 : ∀ W, Below w4.heap.size w4 W → Calls Try.prog 19 #[.agg #[.slice a1 ds'.length q1, .slice a2 seen'.length q2, .slice a3 snaps'.length q3]] W (TellB P1 w4) := fun W hb => (u19 W (hb34.trans (hb.mono hb34.size))).mono fun e w' ⟨b, h1, h2, h3⟩ => ⟨b, h1, h2, hb.trans (h3.mono hb.size)⟩
    have t21 : ∀ W, Below w4.heap.size w4 W → Calls Try.prog 21 #[.agg #[.slice a1 ds'.length q1, .slice a2 seen'.length q2, .slice a3 snaps'.length q3]] W (TellB P2 w4) := fun W hb => (u21 W (hb34.trans (hb.mono hb34.size))).mono fun e w' ⟨b, h1, h2, h3⟩ => ⟨b, h1, h2, hb.trans (h3.mono hb.size)⟩
    have t23 : ∀ W, Below w4.heap.size w4 W → Calls Try.prog 23 #[.agg #[.slice a1 ds'.length q1, .slice a2 seen'.length q2, .slice a3 snaps'.length q3]] W (TellB P3 w4) := fun W hb => (u23 W (hb34.trans (hb.mono hb34.size))).mono fun e w' ⟨b, h1, h2, h3⟩ => ⟨b, h1, h2, hb.trans (h3.mono hb.size)⟩
    have SK := Lib.hid sk
    have G18 := Lib.hid t18
    have G19 := Lib.hid t19
    have G20 := Lib.hid t20
    have G21 := Lib.hid t21
    have G22 := Lib.hid t22
    have G23 := Lib.hid t23
    have HB4 := Lib.hid hB4
    have hz : Below w4.heap.size w4 w4.drew := (Below.refl _ _).drew
    clear sk t18 t19 t20 t21 t22 t23 u19 u21 u23 hB4 hb34 hX4 hV4 hW
    refine wp_region_noPanic ?_
    refine till_start (Two3 w.heap.size w3.heap.size (.slice da ds.length dc) (.slice sa seen.length sc) (.slice na snaps.length nc) (.slice a1 ds'.length q1) (.slice a2 seen'.length q2) (.slice a3 snaps'.length q3)) 19 (by kernel_rfl) ?_
    have hS := SK.out _ hz
    show AnyTill _ _ _ _ _ _ 20 (Array.replicate 20 false) _ _
    refine till_take 0 (v := ?_) rfl (by kernel_rfl) (fun _ _ _ h => h) (Or.inl ⟨by rfl, ?_⟩) hS ?_
    rotate_left
    focus (intro w' hSw; obtain ⟨hs0, hs1, hs2, hs3, hs4, hs5⟩ := hSw; go_simp; try (with_reducible rfl))
    try simp only [Act.put, List.setIfInBounds_toArray, List.set_cons_zero, List.set_cons_succ]
    refine till_take 2 (v := ?_) rfl (by kernel_rfl) (fun _ _ _ h => h) (Or.inl ⟨by rfl, ?_⟩) hS ?_
    rotate_left
    focus (intro w' hSw; obtain ⟨hs0, hs1, hs2, hs3, hs4, hs5⟩ := hSw; go_simp; try (with_reducible rfl))
    try simp only [Act.put, List.setIfInBounds_toArray, List.set_cons_zero, List.set_cons_succ]
    refine till_ready [1] (by kernel_rfl) (TillReady.cons 1 rfl (fun K hK => ?_) TillReady.nil)
    go_simp
    refine (G18.out w4.drew hz).mono ?_
    rintro e wx1 ⟨bb1, rfl, hh1, hz1⟩
    clear hS
    have hS := SK.out _ hz1
    refine (Hid.out hK) _ _ (fun _ => hS) ?_
    try simp only [Act.put, List.setIfInBounds_toArray, List.set_cons_zero, List.set_cons_succ]
    refine till_ready [3] (by kernel_rfl) (TillReady.cons 3 rfl (fun K hK => ?_) TillReady.nil)
    go_simp
    refine (G19.out wx1 hz1).mono ?_
    rintro e wx2 ⟨b', rfl, hh', hz2⟩
    obtain rfl : b' = bb1 := by rw [Bool.eq_iff_iff, hh', hh1]
    clear hh'
    clear hS
    have hS := SK.out _ hz2
    refine (Hid.out hK) _ _ (fun _ => hS) ?_
    try simp only [Act.put, List.setIfInBounds_toArray, List.set_cons_zero, List.set_cons_succ]
    refine till_take 4 (v := ?_) rfl (by kernel_rfl) (fun _ _ _ h => h) (Or.inl ⟨by rfl, ?_⟩) hS ?_
    rotate_left
    focus (intro w' hSw; obtain ⟨hs0, hs1, hs2, hs3, hs4, hs5⟩ := hSw; go_simp; try (with_reducible rfl))
    try simp only [Act.put, List.setIfInBounds_toArray, List.set_cons_zero, List.set_cons_succ]
    refine till_take 5 (v := ?_) rfl (by kernel_rfl) (fun _ _ _ h => h) (Or.inl ⟨by rfl, ?_⟩) hS ?_
    rotate_left
    focus (intro w' hSw; obtain ⟨hs0, hs1, hs2, hs3, hs4, hs5⟩ := hSw; go_simp; try (with_reducible rfl))
    try simp only [Act.put, List.setIfInBounds_toArray, List.set_cons_zero, List.set_cons_succ]
    refine till_take 6 (v := ?_) rfl (by kernel_rfl) (fun _ _ _ h => h) (Or.inl ⟨by rfl, ?_⟩) hS ?_
    rotate_left
    focus (intro w' hSw; obtain ⟨hs0, hs1, hs2, hs3, hs4, hs5⟩ := hSw; go_simp; try (with_reducible rfl))
    try simp only [Act.put, List.setIfInBounds_toArray, List.set_cons_zero, List.set_cons_succ]
    refine till_take 8 (v := ?_) rfl (by kernel_rfl) (fun _ _ _ h => h) (Or.inl ⟨by rfl, ?_⟩) hS ?_
    rotate_left
    focus (intro w' hSw; obtain ⟨hs0, hs1, hs2, hs3, hs4, hs5⟩ := hSw; go_simp; try (with_reducible rfl))
    try simp only [Act.put, List.setIfInBounds_toArray, List.set_cons_zero, List.set_cons_succ]
    refine till_ready [7] (by kernel_rfl) (TillReady.cons 7 rfl (fun K hK => ?_) TillReady.nil)
    go_simp
    refine (G20.out wx2 hz2).mono ?_
    rintro e wx3 ⟨bb3, rfl, hh3, hz3⟩
    clear hS
    have hS := SK.out _ hz3
    refine (Hid.out hK) _ _ (fun _ => hS) ?_
    try simp only [Act.put, List.setIfInBounds_toArray, List.set_cons_zero, List.set_cons_succ]
    refine till_ready [9] (by kernel_rfl) (TillReady.cons 9 rfl (fun K hK => ?_) TillReady.nil)
    go_simp
    refine (G21.out wx3 hz3).mono ?_
    rintro e wx4 ⟨b', rfl, hh', hz4⟩
    obtain rfl : b' = bb3 := by rw [Bool.eq_iff_iff, hh', hh3]
    clear hh'
    clear hS
    have hS := SK.out _ hz4
    refine (Hid.out hK) _ _ (fun _ => hS) ?_
    try simp only [Act.put, List.setIfInBounds_toArray, List.set_cons_zero, List.set_cons_succ]
    refine till_take 10 (v := ?_) rfl (by kernel_rfl) (fun _ _ _ h => h) (Or.inl ⟨by rfl, ?_⟩) hS ?_
    rotate_left
    focus (intro w' hSw; obtain ⟨hs0, hs1, hs2, hs3, hs4, hs5⟩ := hSw; go_simp; try (with_reducible rfl))
    try simp only [Act.put, List.setIfInBounds_toArray, List.set_cons_zero, List.set_cons_succ]
    refine till_take 11 (v := ?_) rfl (by kernel_rfl) (fun _ _ _ h => h) (Or.inl ⟨by rfl, ?_⟩) hS ?_
    rotate_left
    focus (intro w' hSw; obtain ⟨hs0, hs1, hs2, hs3, hs4, hs5⟩ := hSw; go_simp; try (with_reducible rfl))
    try simp only [Act.put, List.setIfInBounds_toArray, List.set_cons_zero, List.set_cons_succ]
    refine till_take 12 (v := ?_) rfl (by kernel_rfl) (fun _ _ _ h => h) (Or.inl ⟨by rfl, ?_⟩) hS ?_
    rotate_left
    focus (intro w' hSw; obtain ⟨hs0, hs1, hs2, hs3, hs4, hs5⟩ := hSw; go_simp; try (with_reducible rfl))
    try simp only [Act.put, List.setIfInBounds_toArray, List.set_cons_zero, List.set_cons_succ]
    refine till_take 13 (v := ?_) rfl (by kernel_rfl) (fun _ _ _ h => h) (Or.inl ⟨by rfl, ?_⟩) hS ?_
    rotate_left
    focus (intro w' hSw; obtain ⟨hs0, hs1, hs2, hs3, hs4, hs5⟩ := hSw; go_simp; try (with_reducible rfl))
    try simp only [Act.put, List.setIfInBounds_toArray, List.set_cons_zero, List.set_cons_succ]
    refine till_take 15 (v := ?_) rfl (by kernel_rfl) (fun _ _ _ h => h) (Or.inl ⟨by rfl, ?_⟩) hS ?_
    rotate_left
    focus (intro w' hSw; obtain ⟨hs0, hs1, hs2, hs3, hs4, hs5⟩ := hSw; go_simp; try (with_reducible rfl))
    try simp only [Act.put, List.setIfInBounds_toArray, List.set_cons_zero, List.set_cons_succ]
    refine till_ready [14] (by kernel_rfl) (TillReady.cons 14 rfl (fun K hK => ?_) TillReady.nil)
    go_simp
    refine (G22.out wx4 hz4).mono ?_
    rintro e wx5 ⟨bb5, rfl, hh5, hz5⟩
    clear hS
    have hS := SK.out _ hz5
    refine (Hid.out hK) _ _ (fun _ => hS) ?_
    try simp only [Act.put, List.setIfInBounds_toArray, List.set_cons_zero, List.set_cons_succ]
    refine till_ready [16] (by kernel_rfl) (TillReady.cons 16 rfl (fun K hK => ?_) TillReady.nil)
    go_simp
    refine (G23.out wx5 hz5).mono ?_
    rintro e wx6 ⟨b', rfl, hh', hz6⟩
    obtain rfl : b' = bb5 := by rw [Bool.eq_iff_iff, hh', hh5]
    clear hh'
    clear hS
    have hS := SK.out _ hz6
    refine (Hid.out hK) _ _ (fun _ => hS) ?_
    try simp only [Act.put, List.setIfInBounds_toArray, List.set_cons_zero, List.set_cons_succ]
    refine till_take 17 (v := ?_) rfl (by kernel_rfl) (fun _ _ _ h => h) (Or.inl ⟨by rfl, ?_⟩) hS ?_
    rotate_left
    focus (intro w' hSw; obtain ⟨hs0, hs1, hs2, hs3, hs4, hs5⟩ := hSw; go_simp; try (with_reducible rfl))
    try simp only [Act.put, List.setIfInBounds_toArray, List.set_cons_zero, List.set_cons_succ]
    refine till_take 18 (v := ?_) rfl (by kernel_rfl) (fun _ _ _ h => h) (Or.inl ⟨by rfl, ?_⟩) hS ?_
    rotate_left
    focus (intro w' hSw; obtain ⟨hs0, hs1, hs2, hs3, hs4, hs5⟩ := hSw; go_simp; try (with_reducible rfl))
    try simp only [Act.put, List.setIfInBounds_toArray, List.set_cons_zero, List.set_cons_succ]
    refine till_ready [19] (by kernel_rfl) (TillReady.cons 19 rfl (fun K hK => ?_) TillReady.nil)
    go_simp
    refine (Hid.out hK) _ _ (fun h => absurd rfl h) ?_
    refine till_done (by kernel_rfl) ?_
    refine NoPanic.normal ?_
    go_wp2
    go_tidy
    exact ⟨rfl, HB4.out.trans (hz6.mono HB4.out.size)⟩
theorem tellsWalk (v0 : Value) (w : World) (a0 : ArgAt Try.prog 26 v0 w) : Calls Try.prog 5 #[v0] w fun e w' => e = .returned (.bool true) ∧ Below w.heap.size w w' := by
  obtain ⟨h, ok, rfl⟩ := a0.hist
  exact c5 ok
end Go.Proofs.Ytmdfilffoomckaa
