/- The law JudgeEnds: its walk. Conditions: each law's own. -/
import Derived.Test.YtmdfilffoomckaaOrders
namespace Go.Proofs.Ytmdfilffoomckaa
open Go.ChangeShapes Go.WideShapes Go.ChangeAt Go.RowKit

def AtEnd (F : Int → ValD) (st : Int) (w : World) (e : Ending) (w' : World) : Prop := ∃ u, F st = u ∧ e = .returned u.agg ∧ Below w.heap.size w w'
/-- The history of the yes ones, as far as it has come. -/
structure FiltAt (w : World) (hv : List Value) (B : Nat) (ds : List DoneD) (v : Value) (X : List DoneD) (W : World) : Prop where
  box : VarAt W B 26 hv
  out : VarAt W w.heap.size 26 [v, .slice none 0 0, .slice none 0 0]
  row : W.ownsRow (w.heap.size + 1) 50 6 v X.length (X.flatMap encDone)
  old : Below w.heap.size w W
  lt : B < w.heap.size
theorem FiltAt.below {w W W' : World} {hv : List Value} {B : Nat} {ds : List DoneD} {v : Value} {X : List DoneD} (p : FiltAt w hv B ds v X W) (hb : Below W.heap.size W W') : FiltAt w hv B ds v X W' :=
  ⟨p.box.keep hb p.box.lt, p.out.keep hb p.out.lt, ownsRow_below p.row hb, p.old.trans (hb.mono p.old.size), p.lt⟩
theorem FiltAt.push {w W W' : World} {hv : List Value} {B : Nat} {ds : List DoneD} {v v' : Value} {X : List DoneD} {x : DoneD} (p : FiltAt w hv B ds v X W) (ho : W'.ownsRow (w.heap.size + 1) 50 6 v' (X.length + 1) (X.flatMap encDone ++ encDone x)) (hg : W.grownBy W' v.ownBlock) :
    FiltAt w hv B ds v' (X ++ [x]) (W'.setCell ⟨w.heap.size, 0, none⟩ v') ∧ VarAt W' w.heap.size 26 [v, .slice none 0 0, .slice none 0 0] ∧ VarAt W' B 26 hv ∧ Below w.heap.size w W' := by
  have hne : ∀ b, b ≤ w.heap.size → some b ≠ v.ownBlock := fun b hb e => by have := (p.row.lt b e.symm).1; omega
  have hb' : Below w.heap.size w W' := p.old.grown hg p.old.size fun k hk => by have := (p.row.lt k hk).1; omega
  have h1 := p.box.grown hg (hne B (Nat.le_of_lt p.lt))
  have h2 := p.out.grown hg (hne _ (Nat.le_refl _))
  refine ⟨⟨h1.other (by have := p.lt; simp; omega) _, h2.set 0 v', ?_, hb'.setCell (Nat.le_refl _) _, p.lt⟩, h2, h1, hb'⟩
  rw [List.flatMap_append, List.length_append]
  simpa using owns_set ho (a := ⟨w.heap.size, 0, none⟩) (by simp) v'
def FiltRel (w : World) (hv : List Value) (B : Nat) (ds : List DoneD) (i : Value) (W : World) : Prop := ∃ j v, j ≤ ds.length ∧ i = .int .i64 (j : Nat) ∧ FiltAt w hv B ds v ((ds.take j).filter (·.yes)) W
def PSF (B B2 : Nat) (src dst : Value) (b o : Nat) (x : DoneD) (W : World) : Prop := W.cell? ⟨B, 0, none⟩ = some src ∧ W.cell? ⟨B2, 0, none⟩ = some dst ∧ W.cell? ⟨b, o, none⟩ = some (.int .i64 x.txn.id.s) ∧ W.cell? ⟨b, o + 1, none⟩ = some (.int .i64 x.txn.id.q) ∧ W.cell? ⟨b, o + 2, none⟩ = some (x.txn.rv) ∧ W.cell? ⟨b, o + 3, none⟩ = some (x.txn.wv) ∧ W.cell? ⟨b, o + 4, none⟩ = some (.bool x.yes) ∧ W.cell? ⟨b, o + 5, none⟩ = some (.int .u64 x.stamp)
theorem filt_take {ds : List DoneD} {j : Nat} {x : DoneD} (h : ds[j]? = some x) : (ds.take (j + 1)).filter (·.yes) = if x.yes then (ds.take j).filter (·.yes) ++ [x] else (ds.take j).filter (·.yes) := by
  rw [List.take_add_one, h, List.filter_append]
  cases hx : x.yes <;> simp [hx]
set_option maxHeartbeats 8000000 in
set_option maxRecDepth 100000 in
theorem c4 {w : World} {h : HistD} (ok : HistOk w h) (key : ByteArray) (hk : key.size ≤ maxLen) : Calls Try.prog 4 #[h.agg, .string key] w fun e w' => e = .returned (.bool true) ∧ Below w.heap.size w w' := by
  refine gen fun R hR => ?_
  unfold maxLen at hk
  have h9 := fun W (hb : Below w.heap.size w W) => c9 (ok.keep hb)
  have HOK := Lib.hid ok
  clear ok
  obtain ⟨ds, seen, snaps, da, dc, sa, sc, na, nc⟩ := h
  simp only [HistD.agg, HistD.dv, HistD.sv, HistD.nv] at h9 ⊢
  go_enter Try.func4, Try.ntmps4
  go_wp2_with fail
  refine (c8 _).mono ?_
  rintro e w1 ⟨rfl, hb1⟩
  have HV1 := Lib.hid ((VarAt.new w 26 [.slice da ds.length dc, .slice sa seen.length sc, .slice na snaps.length nc]).keep hb1 (by simp))
  have HB1 := Lib.hid ((below1 w (.cells #[.slice da ds.length dc, .slice sa seen.length sc, .slice na snaps.length nc] 26)).trans (hb1.mono (by simp)))
  have hV1 := HV1.out
  have v0 := hV1.cell (j := 0) rfl
  have v1 := hV1.cell (j := 1) rfl
  have v2 := hV1.cell (j := 2) rfl
  have vl := hV1.lt
  clear hV1 hb1
  go_wp2_with fail
  refine (h9 w1 HB1.out).mono ?_
  rintro e w2 ⟨b, rfl, hfew, hb2⟩
  have HV2 := Lib.hid (HV1.out.keep hb2 vl)
  have HB2 := Lib.hid (HB1.out.trans (hb2.mono HB1.out.size))
  clear v0 v1 v2 vl h9
  cases b with
  | false =>
    clear hfew
    go_wp2_with fail
    refine (c8 _).mono ?_
    rintro e w3 ⟨rfl, hb3⟩
    go_wp2_with fail
    go_tidy
    exact ⟨rfl, HB2.out.trans (hb3.mono HB2.out.size)⟩
  | true =>
    obtain ⟨f1, f2, f3⟩ := hfew rfl
    simp only at f1 f2 f3
    have hV2 := HV2.out
    have v0 := hV2.cell (j := 0) rfl
    have v1 := hV2.cell (j := 1) rfl
    have v2 := hV2.cell (j := 2) rfl
    have vl := hV2.lt
    clear hV2 hb2
    by_cases hkl : (1000 : Int) < (key.size : Int)
    · go_wp2_with fail
      refine (c8 _).mono ?_
      rintro e w3 ⟨rfl, hb3⟩
      go_wp2_with fail
      go_tidy
      exact ⟨rfl, HB2.out.trans (hb3.mono HB2.out.size)⟩
    have hV2 := HV2.out
    have q1 := hV2.cell (j := 1) rfl
    have hBlt := hV2.lt
    have hini : FiltAt w2 [.slice da ds.length dc, .slice sa seen.length sc, .slice na snaps.length nc] w.heap.size ds (.slice none 0 0) [] (w2.alloc (.cells #[.slice none 0 0, .slice none 0 0, .slice none 0 0] 26)) :=
      ⟨hV2.alloc _, VarAt.new w2 26 [.slice none 0 0, .slice none 0 0, .slice none 0 0], World.ownsRow_nil _ _ _ _, below1 _ _, hBlt⟩
    have HINI := Lib.hid hini
    have hok2 : HistOk w2 ⟨ds, seen, snaps, da, dc, sa, sc, na, nc⟩ := HOK.out.keep HB2.out
    have HO2 := Lib.hid hok2
    clear hini hok2 hV2 HOK HV1 HB1 q1
    go_wp2_with fail
    clear hkl hk
    go_loopw [6] (fun i wr => FiltRel w2 [.slice da ds.length dc, .slice sa seen.length sc, .slice na snaps.length nc] w.heap.size ds i wr) (fun i _ => ds.length - (intOf i).toNat)
    case atStart => exact ⟨0, _, Nat.zero_le _, rfl, HINI.out⟩
    case round =>
      obtain ⟨j, v, hj, rfl, hp⟩ := hrel
      have c0 := hp.box.cell (j := 0) rfl
      have hbl := hp.box.lt
      have HP := Lib.hid hp
      rcases Nat.lt_or_ge j ds.length with hlt | hge
      · obtain ⟨b, o, x, rfl, hbx, hx, hc0, hc1, hc2, hc3, hc4, hc5⟩ := HO2.out.1.doneAt hlt
        have hft := filt_take hx
        have c1 := hp.out.cell (j := 0) rfl
        obtain ⟨va, vc, rfl⟩ := owns_slice hp.row
        have hol := hp.out.lt
        have hfo := hp.out.free 0
        have hjI : (j : Int) < (ds.length : Int) := by omega
        have hXl : ((ds.take j).filter (·.yes)).length ≤ 30 := Nat.le_trans (List.length_filter_le _ _) (by rw [List.length_take]; omega)
        generalize hXX : (ds.take j).filter (·.yes) = X at *
        have hbw : b < wr.heap.size := Nat.lt_of_lt_of_le hbx hp.old.size
        have d4 : wr.cell? ⟨b, o + j * 6 + 4, none⟩ = some (.bool x.yes) := by rw [hp.old.cell (p := ⟨b, o + j * 6 + 4, none⟩) hbx]; exact hc4
        have sk : ∀ W, Below wr.heap.size wr W → PSF w.heap.size w2.heap.size (.slice (some ⟨b, o, none⟩) ds.length dc) (.slice va X.length vc) b (o + j * 6) x W := fun W hb => by
          have hP2 := hp.below hb
          have hW := hP2.old
          refine ⟨hP2.box.cell (j := 0) rfl, hP2.out.cell (j := 0) rfl, by rw [hW.cell (p := ⟨b, o + j * 6, none⟩) hbx]; exact hc0, by rw [hW.cell (p := ⟨b, o + j * 6 + 1, none⟩) hbx]; exact hc1, by rw [hW.cell (p := ⟨b, o + j * 6 + 2, none⟩) hbx]; exact hc2, by rw [hW.cell (p := ⟨b, o + j * 6 + 3, none⟩) hbx]; exact hc3, by rw [hW.cell (p := ⟨b, o + j * 6 + 4, none⟩) hbx]; exact hc4, by rw [hW.cell (p := ⟨b, o + j * 6 + 5, none⟩) hbx]; exact hc5⟩
        have HSK := Lib.hid sk
        have HC := Lib.hid (show _ ∧ _ ∧ _ ∧ _ ∧ _ ∧ _ from ⟨hc0, hc1, hc2, hc3, hc4, hc5⟩)
        have HFT := Lib.hid hft
        have HXX := Lib.hid hXX
        clear sk hc0 hc1 hc2 hc3 hc4 hc5 hx hp hft hXX
        have hS0 : Below wr.heap.size wr wr := Below.refl _ _
        have hS1 : Below wr.heap.size wr (wr.drew.alloc (.cells (encDone x).toArray 50)) := hS0.drew.alloc (Nat.le_refl _) _
        cases hyes : x.yes with
        | false =>
          rw [hyes] at d4
          have hf2 := HFT.out
          rw [hyes] at hf2
          simp only [Bool.false_eq_true, if_false] at hf2
          have HF2 := Lib.hid hf2
          have HYE := Lib.hid hyes
          clear hf2 hyes
          go_wp2
          go_tidy
          exact ⟨⟨j + 1, _, by omega, rfl, by rw [HF2.out]; exact HP.out⟩, by simp [intOf]; omega⟩
        | true =>
          rw [hyes] at d4
          have hf2 := HFT.out
          rw [hyes] at hf2
          simp only [if_true] at hf2
          have HF2 := Lib.hid hf2
          have HYE := Lib.hid hyes
          clear hf2 hyes
          go_wp2
          refine wp_region_noPanic ?_
          refine till_start (PSF w.heap.size w2.heap.size (.slice (some ⟨b, o, none⟩) ds.length dc) (.slice va X.length vc) b (o + j * 6) x) 10 (by kernel_rfl) ?_
          have hS := HSK.out wr.drew hS0.drew
          show AnyTill _ _ _ _ _ _ 11 (Array.replicate 11 false) _ _
          refine till_take 0 (v := ?_) rfl (by kernel_rfl) (fun _ _ _ h => h) (Or.inl ⟨by rfl, ?_⟩) hS ?_
          rotate_left
          focus (intro w' hSw; obtain ⟨hs0, hs1, hs2, hs3, hs4, hs5, hs6, hs7⟩ := hSw; go_simp; try (with_reducible rfl))
          try simp only [Act.put, List.setIfInBounds_toArray, List.set_cons_zero, List.set_cons_succ]
          refine till_take 1 (v := ?_) rfl (by kernel_rfl) (fun _ _ _ h => h) (Or.inl ⟨by rfl, ?_⟩) hS ?_
          rotate_left
          focus (intro w' hSw; obtain ⟨hs0, hs1, hs2, hs3, hs4, hs5, hs6, hs7⟩ := hSw; go_simp; try (with_reducible rfl))
          try simp only [Act.put, List.setIfInBounds_toArray, List.set_cons_zero, List.set_cons_succ]
          refine till_take 2 (v := ?_) rfl (by kernel_rfl) (fun _ _ _ h => h) (Or.inl ⟨by rfl, ?_⟩) hS ?_
          rotate_left
          focus (intro w' hSw; obtain ⟨hs0, hs1, hs2, hs3, hs4, hs5, hs6, hs7⟩ := hSw; go_simp; try (with_reducible rfl))
          try simp only [Act.put, List.setIfInBounds_toArray, List.set_cons_zero, List.set_cons_succ]
          refine till_take 3 (v := ?_) rfl (by kernel_rfl) (fun _ _ _ h => h) (Or.inl ⟨by rfl, ?_⟩) hS ?_
          rotate_left
          focus (intro w' hSw; obtain ⟨hs0, hs1, hs2, hs3, hs4, hs5, hs6, hs7⟩ := hSw; go_simp; try (with_reducible rfl))
          try simp only [Act.put, List.setIfInBounds_toArray, List.set_cons_zero, List.set_cons_succ]
          refine till_take 4 (v := ?_) rfl (by kernel_rfl) (fun _ _ _ h => h) (Or.inl ⟨by rfl, ?_⟩) hS ?_
          rotate_left
          focus (intro w' hSw; obtain ⟨hs0, hs1, hs2, hs3, hs4, hs5, hs6, hs7⟩ := hSw; go_simp; try (with_reducible rfl))
          try simp only [Act.put, List.setIfInBounds_toArray, List.set_cons_zero, List.set_cons_succ]
          refine till_take 5 (v := ?_) rfl (by kernel_rfl) (fun _ _ _ h => h) (Or.inl ⟨by rfl, ?_⟩) hS ?_
          rotate_left
          focus (intro w' hSw; obtain ⟨hs0, hs1, hs2, hs3, hs4, hs5, hs6, hs7⟩ := hSw; go_simp; try (with_reducible rfl))
          try simp only [Act.put, List.setIfInBounds_toArray, List.set_cons_zero, List.set_cons_succ]
          refine till_take 6 (v := ?_) rfl (by kernel_rfl) (fun _ _ _ h => h) (Or.inl ⟨by rfl, ?_⟩) hS ?_
          rotate_left
          focus (intro w' hSw; obtain ⟨hs0, hs1, hs2, hs3, hs4, hs5, hs6, hs7⟩ := hSw; go_simp; try (with_reducible rfl))
          try simp only [Act.put, List.setIfInBounds_toArray, List.set_cons_zero, List.set_cons_succ]
          refine till_ready [7] (by kernel_rfl) (TillReady.cons 7 rfl (fun K hK => ?_) TillReady.nil)
          go_simp
          clear hS
          have hS := HSK.out _ hS1
          refine (Hid.out hK) _ _ (fun _ => hS) ?_
          try simp only [Act.put, List.setIfInBounds_toArray, List.set_cons_zero, List.set_cons_succ]
          refine till_ready [8] (by kernel_rfl) (TillReady.cons 8 rfl (fun K hK => ?_) TillReady.nil)
          refine step_append_fresh (wr.drew.alloc (.cells (encDone x).toArray 50)) rfl (.tmp 37) (.tmp 43) 22 rfl (w2.heap.size + 1) 50 (.agg #[.int .i64 0, .int .i64 0, .slice none 0 0, .slice none 0 0, .bool false, .int .u64 0]) 6 80 underlying22 info50 rfl (by decide) (.slice va X.length vc) X.length (X.flatMap encDone) (by rfl) (HP.out.row.drew.alloc _) ⟨wr.heap.size, 0, none⟩ 1 1 (encDone x) (by rfl) rfl (cell_new wr.drew (encDone x) 50) (by simp [encDone, Value.oneCell']) (by unfold maxLen; omega) (by omega) (by have := HP.out.out.lt; simp; omega) ?_
          intro v5 w3 hT3 hg3 ho3
          obtain ⟨a5, c5, rfl⟩ := owns_slice hT3
          have hP1 := (HP.out.below hS1)
          obtain ⟨hfin, g3, g1, g4⟩ := hP1.push hT3 hg3
          have hS3 : PSF w.heap.size w2.heap.size (.slice (some ⟨b, o, none⟩) ds.length dc) (.slice va X.length vc) b (o + j * 6) x w3 := ⟨g1.cell (j := 0) rfl, g3.cell (j := 0) rfl, by rw [g4.cell (p := ⟨b, o + j * 6, none⟩) hbx]; exact HC.out.1, by rw [g4.cell (p := ⟨b, o + j * 6 + 1, none⟩) hbx]; exact HC.out.2.1, by rw [g4.cell (p := ⟨b, o + j * 6 + 2, none⟩) hbx]; exact HC.out.2.2.1, by rw [g4.cell (p := ⟨b, o + j * 6 + 3, none⟩) hbx]; exact HC.out.2.2.2.1, by rw [g4.cell (p := ⟨b, o + j * 6 + 4, none⟩) hbx]; exact HC.out.2.2.2.2.1, by rw [g4.cell (p := ⟨b, o + j * 6 + 5, none⟩) hbx]; exact HC.out.2.2.2.2.2⟩
          have q0 := g3.cell (j := 0) rfl
          have qf := g3.free 0
          have ql := g3.lt
          have HFIN := Lib.hid hfin
          clear hT3 hg3 ho3 hP1 hfin g1 g3 g4 hS
          have hS := hS3
          clear hS3
          refine (Hid.out hK) _ _ (fun _ => hS) ?_
          try simp only [Act.put, List.setIfInBounds_toArray, List.set_cons_zero, List.set_cons_succ]
          refine till_take 9 (v := ?_) rfl (by kernel_rfl) (fun _ _ _ h => h) (Or.inl ⟨by rfl, ?_⟩) hS ?_
          rotate_left
          focus (intro w' hSw; obtain ⟨hs0, hs1, hs2, hs3, hs4, hs5, hs6, hs7⟩ := hSw; go_simp; try (with_reducible rfl))
          try simp only [Act.put, List.setIfInBounds_toArray, List.set_cons_zero, List.set_cons_succ]
          refine till_ready [10] (by kernel_rfl) (TillReady.cons 10 rfl (fun K hK => ?_) TillReady.nil)
          go_simp
          refine (Hid.out hK) _ _ (fun h => absurd rfl h) ?_
          refine till_done (by kernel_rfl) ?_
          refine NoPanic.normal ?_
          go_wp2
          go_tidy
          exact ⟨⟨j + 1, _, by omega, rfl, by rw [HF2.out]; exact HFIN.out⟩, by simp [intOf]; omega⟩
      · obtain rfl : j = ds.length := by omega
        have hX : first ((ds.take ds.length).filter (·.yes)) = first ds := by rw [List.take_length]; exact first_filter ds
        have hXl : ((ds.take ds.length).filter (·.yes)).length ≤ 30 := Nat.le_trans (List.length_filter_le _ _) (by rw [List.length_take]; omega)
        have hWX := wit_perm (List.Perm.of_eq hX)
        have htxX : ∀ d ∈ (ds.take ds.length).filter (·.yes), d ∈ ds := fun d hd => by
          have := (List.mem_filter.1 hd).1
          rwa [List.take_length] at this
        generalize hXX : (ds.take ds.length).filter (·.yes) = X at *
        obtain ⟨va, vc, rfl⟩ := owns_slice hp.row
        have hokX : HistOk wr ⟨X, [], [], va, vc, none, 0, none, 0⟩ := ⟨RowOf.of_owns (fun _ => rfl) hp.row rfl, RowOf.nil _ _ _, RowOf.nil _ _ _, fun d hd => (HO2.out.2.2.2.1 d (htxX d hd)).keep hp.old, fun x hx => by cases hx⟩
        have hokr := HO2.out.keep hp.old
        have HOX := Lib.hid hokX
        have HOR := Lib.hid hokr
        have c1 := hp.box.cell (j := 1) rfl
        have c2 := hp.box.cell (j := 2) rfl
        have hBold := HB2.out.trans (hp.old.mono HB2.out.size)
        have HBO := Lib.hid hBold
        clear hBold
        have hr' : RowOf encDone 6 wr (.slice da ds.length dc) ds := hokr.1
        have h15 := c15 (.slice sa seen.length sc) (.slice na snaps.length nc) hr' (by omega)
        clear hr'
        go_wp2_with fail
        refine h15.mono ?_
        rintro e w5 ⟨vl, rfl, hvl, hb5⟩
        obtain ⟨la, lc, rfl, -⟩ := id hvl
        have hll : (idsOf (wit ds)).length = (wit ds).length := by unfold idsOf; simp
        have HVL := Lib.hid hvl
        have hp5 := hp.below hb5
        have HB5 := Lib.hid hb5
        have sk : ∀ W, Below w5.heap.size w5 W → Two3' w.heap.size w2.heap.size (.slice da ds.length dc) (.slice sa seen.length sc) (.slice na snaps.length nc) (.slice va X.length vc) (.slice none 0 0) (.slice none 0 0) W := fun W hb => by
          have g1 := hp5.box.keep hb hp5.box.lt
          have g2 := hp5.out.keep hb hp5.out.lt
          exact ⟨g1.cell (j := 0) rfl, g1.cell (j := 1) rfl, g1.cell (j := 2) rfl, g2.cell (j := 0) rfl, g2.cell (j := 1) rfl, g2.cell (j := 2) rfl⟩
        have t15 : ∀ W, Below w5.heap.size w5 W → Calls Try.prog 15 #[.agg #[.slice va X.length vc, .slice none 0 0, .slice none 0 0]] W (IdsEnd2 ds w5) := fun W hb => (c15 (a := va) (cap := vc) (ds := X) (.slice none 0 0) (.slice none 0 0) (HOX.out.keep (hb5.trans (hb.mono hb5.size))).1 (by omega)).mono fun e w' ⟨v, h1, h2, h3⟩ => ⟨v, h1, by rw [hWX] at h2; exact h2, hb.trans (h3.mono hb.size)⟩
        have t14 : ∀ W v, Below w5.heap.size w5 W → RowOf encId 2 W v (idsOf (wit ds)) → Calls Try.prog 14 #[.slice la (idsOf (wit ds)).length lc, v] W fun e w' => e = .returned (.bool true) ∧ Below w5.heap.size w5 w' := fun W v hb hv => (c14 (HVL.out.keep hb) hv).mono fun e w' ⟨b, h1, h2, h3⟩ => ⟨by rw [h1, h2.2 rfl], hb.trans (h3.mono hb.size)⟩
        obtain ⟨F, hF⟩ : ∃ F : Int → ValD, ∀ st, F st = atS key st (wit ds) := ⟨fun st => atS key st (wit ds), fun _ => rfl⟩
        have t16 : ∀ st W, Below w5.heap.size w5 W → Calls Try.prog 16 #[.agg #[.slice da ds.length dc, .slice sa seen.length sc, .slice na snaps.length nc], .string key, .int .u64 st] W (AtEnd F st w5) := fun st W hb => (c16 (HOR.out.keep (hb5.trans (hb.mono hb5.size))) (by simp only; omega) key st).mono fun e w' ⟨h1, h2⟩ => ⟨_, hF st, h1, hb.trans (h2.mono hb.size)⟩
        have t16x : ∀ st W, Below w5.heap.size w5 W → Calls Try.prog 16 #[.agg #[.slice va X.length vc, .slice none 0 0, .slice none 0 0], .string key, .int .u64 st] W (AtEnd F st w5) := fun st W hb => (c16 (HOX.out.keep (hb5.trans (hb.mono hb5.size))) (by simp only; omega) key st).mono fun e w' ⟨h1, h2⟩ => ⟨_, hF st, by simp only at h1; rw [hWX] at h1; exact h1, hb.trans (h2.mono hb.size)⟩
        have t12 : ∀ W id, Below w5.heap.size w5 W → Calls Try.prog 12 #[.agg #[.slice da ds.length dc, .slice sa seen.length sc, .slice na snaps.length nc], .agg #[.int .i64 id.s, .int .i64 id.q], .string key] W (AheadEnd (ahead id key zeroVal (wit ds)) w5 W) := fun W id hb => (c12 (HOR.out.keep (hb5.trans (hb.mono hb5.size))) (by simp only; omega) id key).mono fun e w' ⟨h1, h2⟩ => ⟨h1, hb.trans (h2.mono hb.size), h2⟩
        have hzero : (wit ds).length = 0 → ∀ st, F st = zeroVal := fun h st => by rw [hF, List.eq_nil_of_length_eq_zero h]; rfl
        have HZ := Lib.hid hzero
        have hne : ∀ (u : ValD) w, (binOp .neq 47 (.agg #[.int .i64 u.kind, .int .u64 u.bits, .string u.text]) (.agg #[.int .i64 u.kind, .int .u64 u.bits, .string u.text])).run Try.prog w = .ok (.bool false) w := fun u w => by
          have := neq47 u u w
          simpa only [ValD.agg, decide_true, Bool.not_true] using this
        have SK := Lib.hid sk
        have G14 := Lib.hid t14
        have G15 := Lib.hid t15
        have G16 := Lib.hid t16
        have G16X := Lib.hid t16x
        have G12 := Lib.hid t12
        have hz : Below w5.heap.size w5 w5.drew := (Below.refl _ _).drew
        rw [hll]
        rw [hll] at G14
        have HLL := Lib.hid hll
        clear hll
        clear sk t14 t15 t16 t16x t12 hp hp5 hF hokX hokr hvl hb5 c0 c1 c2 hbl hzero hWX htxX hXX hX
        go_upto_region 10 with fail
        go_cut [61] (fun c wx => c = .bool false ∧ Below w5.heap.size w5 wx)
        case first => as_aux_lemma =>
          refine wp_region_noPanic ?_
          refine till_start (Two3' w.heap.size w2.heap.size (.slice da ds.length dc) (.slice sa seen.length sc) (.slice na snaps.length nc) (.slice va X.length vc) (.slice none 0 0) (.slice none 0 0)) 13 (by kernel_rfl) ?_
          have hS := SK.out _ hz
          show AnyTill _ _ _ _ _ _ 14 (Array.replicate 14 false) _ _
          refine till_take 0 (v := ?_) rfl (by kernel_rfl) (fun _ _ _ h => h) (Or.inl ⟨by rfl, ?_⟩) hS ?_
          rotate_left
          focus (intro w' hSw; obtain ⟨hs0, hs1, hs2, hs3, hs4, hs5⟩ := hSw; go_simp; try (with_reducible rfl))
          try simp only [Act.put, List.setIfInBounds_toArray, List.set_cons_zero, List.set_cons_succ]
          refine till_take 1 (v := ?_) rfl (by kernel_rfl) (fun _ _ _ h => h) (Or.inl ⟨by rfl, ?_⟩) hS ?_
          rotate_left
          focus (intro w' hSw; obtain ⟨hs0, hs1, hs2, hs3, hs4, hs5⟩ := hSw; go_simp; try (with_reducible rfl))
          try simp only [Act.put, List.setIfInBounds_toArray, List.set_cons_zero, List.set_cons_succ]
          refine till_ready [2] (by kernel_rfl) (TillReady.cons 2 rfl (fun K hK => ?_) TillReady.nil)
          go_simp
          refine (G15.out w5.drew hz).mono ?_
          rintro e wx1 ⟨v15, rfl, hv15, hz1⟩
          obtain ⟨va5, vc5, rfl, -⟩ := id hv15
          have HV15 := Lib.hid hv15
          clear hv15
          clear hS
          have hS := SK.out _ hz1
          refine (Hid.out hK) _ _ (fun _ => hS) ?_
          try simp only [Act.put, List.setIfInBounds_toArray, List.set_cons_zero, List.set_cons_succ]
          refine till_ready [3] (by kernel_rfl) (TillReady.cons 3 rfl (fun K hK => ?_) TillReady.nil)
          go_simp
          refine (G14.out wx1 _ hz1 HV15.out).mono ?_
          rintro e wx2 ⟨rfl, hz2⟩
          clear hS
          have hS := SK.out _ hz2
          refine (Hid.out hK) _ _ (fun _ => hS) ?_
          try simp only [Act.put, List.setIfInBounds_toArray, List.set_cons_zero, List.set_cons_succ]
          refine till_take 4 (v := ?_) rfl (by kernel_rfl) (fun _ _ _ h => h) (Or.inl ⟨by rfl, ?_⟩) hS ?_
          rotate_left
          focus (intro w' hSw; obtain ⟨hs0, hs1, hs2, hs3, hs4, hs5⟩ := hSw; go_simp; try (with_reducible rfl))
          try simp only [Act.put, List.setIfInBounds_toArray, List.set_cons_zero, List.set_cons_succ]
          refine till_take 5 (v := ?_) rfl (by kernel_rfl) (fun _ _ _ h => h) (Or.inl ⟨by rfl, ?_⟩) hS ?_
          rotate_left
          focus (intro w' hSw; obtain ⟨hs0, hs1, hs2, hs3, hs4, hs5⟩ := hSw; go_simp; try (with_reducible rfl))
          try simp only [Act.put, List.setIfInBounds_toArray, List.set_cons_zero, List.set_cons_succ]
          refine till_take 6 (v := ?_) rfl (by kernel_rfl) (fun _ _ _ h => h) (Or.inl ⟨by rfl, ?_⟩) hS ?_
          rotate_left
          focus (intro w' hSw; obtain ⟨hs0, hs1, hs2, hs3, hs4, hs5⟩ := hSw; go_simp; try (with_reducible rfl))
          try simp only [Act.put, List.setIfInBounds_toArray, List.set_cons_zero, List.set_cons_succ]
          refine till_take 7 (v := ?_) rfl (by kernel_rfl) (fun _ _ _ h => h) (Or.inl ⟨by rfl, ?_⟩) hS ?_
          rotate_left
          focus (intro w' hSw; obtain ⟨hs0, hs1, hs2, hs3, hs4, hs5⟩ := hSw; go_simp; try (with_reducible rfl))
          try simp only [Act.put, List.setIfInBounds_toArray, List.set_cons_zero, List.set_cons_succ]
          refine till_take 9 (v := ?_) rfl (by kernel_rfl) (fun _ _ _ h => h) (Or.inl ⟨by rfl, ?_⟩) hS ?_
          rotate_left
          focus (intro w' hSw; obtain ⟨hs0, hs1, hs2, hs3, hs4, hs5⟩ := hSw; go_simp; try (with_reducible rfl))
          try simp only [Act.put, List.setIfInBounds_toArray, List.set_cons_zero, List.set_cons_succ]
          refine till_take 10 (v := ?_) rfl (by kernel_rfl) (fun _ _ _ h => h) (Or.inl ⟨by rfl, ?_⟩) hS ?_
          rotate_left
          focus (intro w' hSw; obtain ⟨hs0, hs1, hs2, hs3, hs4, hs5⟩ := hSw; go_simp; try (with_reducible rfl))
          try simp only [Act.put, List.setIfInBounds_toArray, List.set_cons_zero, List.set_cons_succ]
          refine till_ready [8] (by kernel_rfl) (TillReady.cons 8 rfl (fun K hK => ?_) TillReady.nil)
          go_simp
          refine (G16.out _ wx2 hz2).mono ?_
          rintro e wx3 ⟨u, hu, rfl, hz3⟩
          have HU := Lib.hid hu
          clear hu
          clear hS
          have hS := SK.out _ hz3
          refine (Hid.out hK) _ _ (fun _ => hS) ?_
          try simp only [Act.put, List.setIfInBounds_toArray, List.set_cons_zero, List.set_cons_succ]
          refine till_ready [11] (by kernel_rfl) (TillReady.cons 11 rfl (fun K hK => ?_) TillReady.nil)
          go_simp
          refine (G16X.out _ wx3 hz3).mono ?_
          rintro e wx4 ⟨u', hu', rfl, hz4⟩
          obtain rfl : u = u' := HU.out.symm.trans hu'
          clear hu'
          clear hS
          have hS := SK.out _ hz4
          refine (Hid.out hK) _ _ (fun _ => hS) ?_
          try simp only [Act.put, List.setIfInBounds_toArray, List.set_cons_zero, List.set_cons_succ]
          refine till_take 12 (v := ?_) rfl (by kernel_rfl) (fun _ _ _ h => h) (Or.inl ⟨by rfl, ?_⟩) hS ?_
          rotate_left
          focus (intro w' hSw; obtain ⟨hs0, hs1, hs2, hs3, hs4, hs5⟩ := hSw; go_simp; try (with_reducible rfl))
          try simp only [Act.put, List.setIfInBounds_toArray, List.set_cons_zero, List.set_cons_succ]
          refine till_ready [13] (by kernel_rfl) (TillReady.cons 13 rfl (fun K hK => ?_) TillReady.nil)
          go_simp
          refine (Hid.out hK) _ _ (fun h => absurd rfl h) ?_
          refine till_done (by kernel_rfl) ?_
          refine NoPanic.normal ?_
          go_wp2
          go_meet
          exact ⟨rfl, hz4⟩
        case rest =>
          obtain ⟨rfl, hbx⟩ := hcut
          have sk2 := SK.out wc hbx
          obtain ⟨a0, a1, a2, -, -, -⟩ := id sk2
          have HBX := Lib.hid hbx
          have hcl : w.heap.size < wc.heap.size := by have := HB5.out.size; have := hbx.size; have := HP.out.box.lt; omega
          clear sk2
          by_cases hz0 : (wit ds).length = 0
          · have HU := Lib.hid (HZ.out hz0)
            have heq := eql47 zeroVal zeroVal
            simp only [ValD.agg, decide_true, zeroVal] at heq
            have hzI : ((wit ds).length : Int) = 0 := by omega
            clear hne
            go_wp2_with (first | (go_at_call 16; refine (G16.out _ _ hbx).mono ?_; rintro e w7 ⟨u, hu, rfl, hb7⟩; obtain rfl : u = zeroVal := hu.symm.trans (HU.out _); clear hu; simp only [ValD.agg, zeroVal]) | fail)
            go_tidy
            exact ⟨rfl, HBO.out.trans ((HB5.out.trans (hb7.mono HB5.out.size)).mono HBO.out.size)⟩
          · have hzI : ¬ ((wit ds).length : Int) = 0 := by omega
            have hpos : (0 : Int) < ((wit ds).length : Int) := by omega
            obtain ⟨b, o, i0, rfl, hbi, hi, hi0, hi1⟩ := (HVL.out.keep hbx).idAt (i := 0) (by rw [HLL.out]; omega)
            rw [Nat.zero_mul, Nat.add_zero] at hi0 hi1
            have hah : ahead i0 key zeroVal (wit ds) = some zeroVal := by
              unfold idsOf at hi
              rw [List.getElem?_map] at hi
              cases hw0 : (wit ds)[0]? with
              | none => rw [hw0] at hi; cases hi
              | some d =>
                rw [hw0] at hi
                simp only [Option.map_some, Option.some.injEq] at hi
                have := ahead_hit (key := key) (L := wit ds) (id := i0) (j := 0) (fun k d hk => by omega) hw0 hi
                simpa [valN] using this
            obtain ⟨u, hu⟩ : ∃ u, u = zeroVal := ⟨_, rfl⟩
            obtain ⟨ob, hob⟩ : ∃ ob, ob = true := ⟨_, rfl⟩
            have t12 : ∀ W, Below wc.heap.size wc W → Calls Try.prog 12 #[.agg #[.slice da ds.length dc, .slice sa seen.length sc, .slice na snaps.length nc], .agg #[.int .i64 i0.s, .int .i64 i0.q], .string key] W fun e w' => e = .returned (.tuple #[u.agg, .bool ob]) ∧ Below wc.heap.size wc w' ∧ Below W.heap.size W w' := fun W hb => (G12.out W i0 (hbx.trans (hb.mono hbx.size))).mono fun e w' h => by
              obtain ⟨h1, h2, h3⟩ := h
              rw [hah] at h1
              exact ⟨by rw [h1, hu, hob]; rfl, hb.trans (h3.mono hb.size), h3⟩
            have hbic : b < wc.heap.size := hbi
            have sk3 : ∀ W, Below wc.heap.size wc W → OrdS w.heap.size w2.heap.size (.slice da ds.length dc) (.slice sa seen.length sc) (.slice na snaps.length nc) (.slice va X.length vc) (.slice none 0 0) (.slice none 0 0) b o i0.s i0.q W := fun W hb => by
              have h0 := SK.out W (hbx.trans (hb.mono hbx.size))
              obtain ⟨q0, q1, q2, q3, q4, q5⟩ := h0
              exact ⟨q0, q1, q2, q3, q4, q5, by rw [hb.cell (p := ⟨b, o, none⟩) hbic]; exact hi0, by rw [hb.cell (p := ⟨b, o + 1, none⟩) hbic]; exact hi1⟩
            clear SK
            have SK := Lib.hid sk3
            have G := Lib.hid t12
            have HU := Lib.hid hu
            have HOB := Lib.hid hob
            have hS0 : Below wc.heap.size wc wc := Below.refl _ _
            have hS1 : Below wc.heap.size wc (wc.alloc (.cells (encVal zeroVal).toArray 47)).drew := (hS0.alloc (Nat.le_refl _) _).drew
            clear sk3 t12 hu hob hah a0 a1 a2 hi hi0 hi1 hbx hbic hne
            have hpos2 : (0 : Nat) < (wit ds).length := by omega
            go_upto_region 14 with fail
            obtain ⟨wr, rfl⟩ : ∃ wr : World, wr = wc := ⟨_, rfl⟩
            go_cut [8, 9] (fun p okv wx => ∃ g : Nat, p = .pointer (some ⟨g, 0, none⟩) ∧ okv = .bool ob ∧ VarAt wx g 47 (encVal u) ∧ Below wr.heap.size wr wx ∧ wr.heap.size ≤ g)
            case first => as_aux_lemma =>
              refine wp_region_noPanic ?_
              refine till_start (OrdS w.heap.size w2.heap.size (.slice da ds.length dc) (.slice sa seen.length sc) (.slice na snaps.length nc) (.slice va X.length vc) (.slice none 0 0) (.slice none 0 0) b o i0.s i0.q) 11 (by kernel_rfl) ?_
              have hS := SK.out wr.drew hS0.drew
              show AnyTill _ _ _ _ _ _ 12 (Array.replicate 12 false) _ _
              refine till_take 0 (v := ?_) rfl (by kernel_rfl) (fun _ _ _ h => h) (Or.inl ⟨by rfl, ?_⟩) hS ?_
              rotate_left
              focus (intro w' hSw; obtain ⟨hs0, hs1, hs2, hs3, hs4, hs5, hs6, hs7⟩ := hSw; go_simp; try (with_reducible rfl))
              try simp only [Act.put, List.setIfInBounds_toArray, List.set_cons_zero, List.set_cons_succ]
              refine till_take 1 (v := ?_) rfl (by kernel_rfl) (fun _ _ _ h => h) (Or.inl ⟨by rfl, ?_⟩) hS ?_
              rotate_left
              focus (intro w' hSw; obtain ⟨hs0, hs1, hs2, hs3, hs4, hs5, hs6, hs7⟩ := hSw; go_simp; try (with_reducible rfl))
              try simp only [Act.put, List.setIfInBounds_toArray, List.set_cons_zero, List.set_cons_succ]
              refine till_take 2 (v := ?_) rfl (by kernel_rfl) (fun _ _ _ h => h) (Or.inl ⟨by rfl, ?_⟩) hS ?_
              rotate_left
              focus (intro w' hSw; obtain ⟨hs0, hs1, hs2, hs3, hs4, hs5, hs6, hs7⟩ := hSw; go_simp; try (with_reducible rfl))
              try simp only [Act.put, List.setIfInBounds_toArray, List.set_cons_zero, List.set_cons_succ]
              refine till_take 3 (v := ?_) rfl (by kernel_rfl) (fun _ _ _ h => h) (Or.inl ⟨by rfl, ?_⟩) hS ?_
              rotate_left
              focus (intro w' hSw; obtain ⟨hs0, hs1, hs2, hs3, hs4, hs5, hs6, hs7⟩ := hSw; go_simp; try (with_reducible rfl))
              try simp only [Act.put, List.setIfInBounds_toArray, List.set_cons_zero, List.set_cons_succ]
              refine till_take 4 (v := ?_) rfl (by kernel_rfl) (fun _ _ _ h => h) (Or.inl ⟨by rfl, ?_⟩) hS ?_
              rotate_left
              focus (intro w' hSw; obtain ⟨hs0, hs1, hs2, hs3, hs4, hs5, hs6, hs7⟩ := hSw; go_simp; try (with_reducible rfl))
              try simp only [Act.put, List.setIfInBounds_toArray, List.set_cons_zero, List.set_cons_succ]
              refine till_ready [5, 9] (by kernel_rfl) (TillReady.cons 5 rfl (fun K hK => ?_) (TillReady.cons 9 rfl (fun K hK => ?_) TillReady.nil))
              · go_simp
                refine (G.out wr.drew hS0.drew).mono ?_
                rintro e w9 ⟨rfl, -, hb9⟩
                have hb5 : Below wr.heap.size wr w9 := hS0.drew.trans hb9
                clear hS
                have hS := SK.out w9 hb5
                refine (Hid.out hK) _ _ (fun _ => hS) ?_
                try simp only [Act.put, List.setIfInBounds_toArray, List.set_cons_zero, List.set_cons_succ]
                refine till_take 6 (v := ?_) rfl (by kernel_rfl) (fun _ _ _ h => h) (Or.inl ⟨by rfl, ?_⟩) hS ?_
                rotate_left
                focus (intro w' hSw; obtain - := hSw; go_simp; try (with_reducible rfl))
                try simp only [Act.put, List.setIfInBounds_toArray, List.set_cons_zero, List.set_cons_succ]
                refine till_take 7 (v := ?_) rfl (by kernel_rfl) (fun _ _ _ h => h) (Or.inl ⟨by rfl, ?_⟩) hS ?_
                rotate_left
                focus (intro w' hSw; obtain - := hSw; go_simp; try (with_reducible rfl))
                try simp only [Act.put, List.setIfInBounds_toArray, List.set_cons_zero, List.set_cons_succ]
                refine till_take 8 (v := ?_) rfl (by kernel_rfl) (fun _ _ _ h => h) (Or.inl ⟨by rfl, ?_⟩) hS ?_
                rotate_left
                focus (intro w' hSw; obtain - := hSw; go_simp; try (with_reducible rfl))
                try simp only [Act.put, List.setIfInBounds_toArray, List.set_cons_zero, List.set_cons_succ]
                refine till_ready [9] (by kernel_rfl) (TillReady.cons 9 rfl (fun K hK => ?_) TillReady.nil)
                go_simp
                have hb6 := hb5.alloc hb5.size (.cells (encVal zeroVal).toArray 47)
                have hS := SK.out _ hb6
                refine (Hid.out hK) _ _ (fun _ => hS) ?_
                try simp only [Act.put, List.setIfInBounds_toArray, List.set_cons_zero, List.set_cons_succ]
                refine till_ready [10] (by kernel_rfl) (TillReady.cons 10 rfl (fun K hK => ?_) TillReady.nil)
                go_simp
                have hb7 := hb5.alloc hb5.size (.cells (encVal u).toArray 47)
                have hS := SK.out _ hb7
                refine (Hid.out hK) _ _ (fun _ => hS) ?_
                try simp only [Act.put, List.setIfInBounds_toArray, List.set_cons_zero, List.set_cons_succ]
                refine till_ready [11] (by kernel_rfl) (TillReady.cons 11 rfl (fun K hK => ?_) TillReady.nil)
                go_simp
                refine (Hid.out hK) _ _ (fun h => absurd rfl h) ?_
                refine till_done (by kernel_rfl) ?_
                refine NoPanic.normal ?_
                go_wp2
                go_meet
                exact ⟨_, rfl, rfl, VarAt.new w9 47 (encVal u), hb7, hb5.size⟩
              · go_simp
                clear hS
                have hS := SK.out _ hS1
                refine (Hid.out hK) _ _ (fun _ => hS) ?_
                try simp only [Act.put, List.setIfInBounds_toArray, List.set_cons_zero, List.set_cons_succ]
                refine till_ready [5] (by kernel_rfl) (TillReady.cons 5 rfl (fun K hK => ?_) TillReady.nil)
                go_simp
                refine (G.out (wr.alloc (.cells (encVal zeroVal).toArray 47)).drew hS1).mono ?_
                rintro e w9 ⟨rfl, -, hb6⟩
                have hb5 : Below wr.heap.size wr w9 := hS1.trans (hb6.mono hS1.size)
                clear hS
                have hS := SK.out w9 hb5
                have hn := VarAt.keep (VarAt.new wr 47 (encVal zeroVal)).drew hb6 (by simp)
                have n0 := hn.cell (j := 0) rfl
                have n1 := hn.cell (j := 1) rfl
                have n2 := hn.cell (j := 2) rfl
                have k0 := hn.free 0
                have k1 := hn.free 1
                have k2 := hn.free 2
                have hl5 := hn.lt
                have HN := Lib.hid hn
                clear hn hb6
                refine (Hid.out hK) _ _ (fun _ => hS) ?_
                try simp only [Act.put, List.setIfInBounds_toArray, List.set_cons_zero, List.set_cons_succ]
                refine till_take 6 (v := ?_) rfl (by kernel_rfl) (fun _ _ _ h => h) (Or.inl ⟨by rfl, ?_⟩) hS ?_
                rotate_left
                focus (intro w' hSw; obtain - := hSw; go_simp; try (with_reducible rfl))
                try simp only [Act.put, List.setIfInBounds_toArray, List.set_cons_zero, List.set_cons_succ]
                refine till_take 7 (v := ?_) rfl (by kernel_rfl) (fun _ _ _ h => h) (Or.inl ⟨by rfl, ?_⟩) hS ?_
                rotate_left
                focus (intro w' hSw; obtain - := hSw; go_simp; try (with_reducible rfl))
                try simp only [Act.put, List.setIfInBounds_toArray, List.set_cons_zero, List.set_cons_succ]
                refine till_take 8 (v := ?_) rfl (by kernel_rfl) (fun _ _ _ h => h) (Or.inl ⟨by rfl, ?_⟩) hS ?_
                rotate_left
                focus (intro w' hSw; obtain - := hSw; go_simp; try (with_reducible rfl))
                try simp only [Act.put, List.setIfInBounds_toArray, List.set_cons_zero, List.set_cons_succ]
                refine till_ready [10] (by kernel_rfl) (TillReady.cons 10 rfl (fun K hK => ?_) TillReady.nil)
                go_simp
                have hb7 : Below wr.heap.size wr (((w9.setCell ⟨wr.heap.size, 0, none⟩ (.int .i64 u.kind)).setCell ⟨wr.heap.size, 1, none⟩ (.int .u64 u.bits)).setCell ⟨wr.heap.size, 2, none⟩ (.string u.text)) := ((hb5.setCell (Nat.le_refl _) _).setCell (Nat.le_refl _) _).setCell (Nat.le_refl _) _
                have hS := SK.out _ hb7
                refine (Hid.out hK) _ _ (fun _ => hS) ?_
                try simp only [Act.put, List.setIfInBounds_toArray, List.set_cons_zero, List.set_cons_succ]
                refine till_ready [11] (by kernel_rfl) (TillReady.cons 11 rfl (fun K hK => ?_) TillReady.nil)
                go_simp
                refine (Hid.out hK) _ _ (fun h => absurd rfl h) ?_
                refine till_done (by kernel_rfl) ?_
                refine NoPanic.normal ?_
                go_wp2
                go_meet
                exact ⟨_, rfl, rfl, ((HN.out.set 0 (.int .i64 u.kind)).set 1 (.int .u64 u.bits)).set 2 (.string u.text), hb7, Nat.le_refl _⟩
            case rest =>
              obtain ⟨g, rfl, rfl, hg, hbx2, hgl⟩ := hcut
              obtain rfl := HU.out
              obtain rfl := HOB.out
              have g0 := hg.cell (j := 0) rfl
              have g1 := hg.cell (j := 1) rfl
              have g2 := hg.cell (j := 2) rfl
              have gl := hg.lt
              have heq := eql47 zeroVal zeroVal
              simp only [ValD.agg, decide_true, zeroVal] at heq g0 g1 g2
              have HB2 := Lib.hid (HBX.out.trans (hbx2.mono HBX.out.size))
              clear hg hbx2 HU HOB
              go_wp2_with fail
              go_tidy
              exact ⟨rfl, HBO.out.trans ((HB5.out.trans (HB2.out.mono HB5.out.size)).mono HBO.out.size)⟩
theorem endsWalk (v0 v1 : Value) (w : World) (a0 : ArgAt Try.prog 26 v0 w) (a1 : ArgAt Try.prog 9 v1 w) : Calls Try.prog 4 #[v0, v1] w fun e w' => e = .returned (.bool true) ∧ Below w.heap.size w w' := by
  obtain ⟨h, ok, rfl⟩ := a0.hist
  obtain ⟨key, rfl, hk⟩ := a1.string Try.underlying9
  exact c4 ok key hk
end Go.Proofs.Ytmdfilffoomckaa
