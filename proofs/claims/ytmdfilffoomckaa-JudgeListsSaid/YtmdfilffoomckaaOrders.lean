/- The law JudgeOrders: its walk. Conditions: each law's own. -/
import Derived.Test.YtmdfilffoomckaaFew
import Derived.Test.YtmdfilffoomckaaOpens
import Derived.Deep.DeepCutAuto
import Derived.Deep.CutBlock
namespace Go.Proofs.Ytmdfilffoomckaa
open Go.ChangeShapes Go.WideShapes Go.ChangeAt Go.RowKit

theorem ArgAt.string {P : Program} {t : TypeId} {v : Value} {w : World} (h : ArgAt P t v w) (ht : P.underlying t = some .string) : ∃ s : ByteArray, v = .string s ∧ s.size ≤ maxLen := by
  obtain ⟨⟨b, hb⟩, _⟩ := id h
  obtain ⟨s, rfl⟩ := okWide_string ht hb
  obtain ⟨s', hs, he⟩ := h.opens fun _ _ => opens_string ht
  simp [Value.cells] at he
  subst he
  exact ⟨s, rfl, hs⟩
def IdsEnd2 (ds : List DoneD) (w : World) (e : Ending) (w' : World) : Prop := ∃ v, e = .returned v ∧ RowOf encId 2 w' v (idsOf (wit ds)) ∧ Below w.heap.size w w'
structure OrdS (b1 b2 : Nat) (x0 x1 x2 y0 y1 y2 : Value) (b o : Nat) (s q : Int) (W : World) : Prop where
  a0 : W.cell? ⟨b1, 0, none⟩ = some x0
  a1 : W.cell? ⟨b1, 1, none⟩ = some x1
  a2 : W.cell? ⟨b1, 2, none⟩ = some x2
  e0 : W.cell? ⟨b2, 0, none⟩ = some y0
  e1 : W.cell? ⟨b2, 1, none⟩ = some y1
  e2 : W.cell? ⟨b2, 2, none⟩ = some y2
  d0 : W.cell? ⟨b, o, none⟩ = some (.int .i64 s)
  d1 : W.cell? ⟨b, o + 1, none⟩ = some (.int .i64 q)
structure Two3' (b1 b2 : Nat) (x0 x1 x2 y0 y1 y2 : Value) (W : World) : Prop where
  a0 : W.cell? ⟨b1, 0, none⟩ = some x0
  a1 : W.cell? ⟨b1, 1, none⟩ = some x1
  a2 : W.cell? ⟨b1, 2, none⟩ = some x2
  e0 : W.cell? ⟨b2, 0, none⟩ = some y0
  e1 : W.cell? ⟨b2, 1, none⟩ = some y1
  e2 : W.cell? ⟨b2, 2, none⟩ = some y2
def OrdRel (n : Nat) (W1 : World) (i : Value) (wr : World) : Prop := ∃ m : Nat, m ≤ n ∧ i = .int .i64 m ∧ Below W1.heap.size W1 wr
/-- What a call of Ahead leaves. -/
def AheadEnd (ov : Option ValD) (w0 W : World) (e : Ending) (w' : World) : Prop := e = .returned (aheadV ov) ∧ Below w0.heap.size w0 w' ∧ Below W.heap.size W w'
set_option maxHeartbeats 8000000 in
set_option maxRecDepth 100000 in
theorem c3 {w : World} {h : HistD} (ok : HistOk w h) (key : ByteArray) (hk : key.size ≤ maxLen) (stamp : Int) : Calls Try.prog 3 #[h.agg, .string key, .int .u64 stamp] w fun e w' => e = .returned (.bool true) ∧ Below w.heap.size w w' := by
  refine gen fun R hR => ?_
  unfold maxLen at hk
  have h9 := fun W (hb : Below w.heap.size w W) => c9 (ok.keep hb)
  have h10 := fun W (hb : Below w.heap.size w W) => c10 (ok.keep hb)
  have HOK := Lib.hid ok
  clear ok
  obtain ⟨ds, seen, snaps, da, dc, sa, sc, na, nc⟩ := h
  simp only [HistD.agg, HistD.dv, HistD.sv, HistD.nv] at h9 h10 ⊢
  have H10 := Lib.hid h10
  clear h10
  go_enter Try.func3, Try.ntmps3
  go_wp2_with fail
  refine (c8 _).mono ?_
  rintro e w1 ⟨rfl, hb1⟩
  have HV1 := Lib.hid ((VarAt.new w 26 [.slice da ds.length dc, .slice sa seen.length sc, .slice na snaps.length nc]).keep hb1 (by simp))
  have HB1 := Lib.hid ((below1 w (.cells #[.slice da ds.length dc, .slice sa seen.length sc, .slice na snaps.length nc] 26)).trans (hb1.mono (by simp)))
  have hV1 := HV1.out
  have v0 := hV1.cell (j := 0) rfl
  have v1 := hV1.cell (j := 1) rfl
  have v2 := hV1.cell (j := 2) rfl
  have vl := hV1.lt
  clear hV1 hb1
  go_wp2_with fail
  refine (h9 w1 HB1.out).mono ?_
  rintro e w2 ⟨b, rfl, hfew, hb2⟩
  have HV2 := Lib.hid (HV1.out.keep hb2 vl)
  have HB2 := Lib.hid (HB1.out.trans (hb2.mono HB1.out.size))
  clear v0 v1 v2 vl h9
  cases b with
  | false =>
    clear hfew
    go_wp2_with fail
    refine (c8 _).mono ?_
    rintro e w3 ⟨rfl, hb3⟩
    go_wp2_with fail
    go_tidy
    exact ⟨rfl, HB2.out.trans (hb3.mono HB2.out.size)⟩
  | true =>
    obtain ⟨f1, f2, f3⟩ := hfew rfl
    simp only at f1 f2 f3
    have hV2 := HV2.out
    have v0 := hV2.cell (j := 0) rfl
    have v1 := hV2.cell (j := 1) rfl
    have v2 := hV2.cell (j := 2) rfl
    have vl := hV2.lt
    clear hV2 hb2
    by_cases hkl : (1000 : Int) < (key.size : Int)
    · go_wp2_with fail
      refine (c8 _).mono ?_
      rintro e w3 ⟨rfl, hb3⟩
      go_wp2_with fail
      go_tidy
      exact ⟨rfl, HB2.out.trans (hb3.mono HB2.out.size)⟩
    go_wp2_with fail
    refine (H10.out w2 HB2.out f1 f2 f3).mono ?_
    rintro e w3 ⟨h', rfl, e1, e2, e3, hok, hb3⟩
    simp only at e1 e2 e3
    have HV3 := Lib.hid (HV2.out.keep hb3 vl)
    have HB3 := Lib.hid (HB2.out.trans (hb3.mono HB2.out.size))
    have HK3 := Lib.hid hok
    have HE1 := Lib.hid e1
    clear e1 e2 e3 hok hb3 v0 v1 v2 vl hkl hk
    obtain ⟨ds', seen', snaps', a1, q1, a2, q2, a3, q3⟩ := h'
    obtain rfl : ds = ds' := HE1.out.symm
    simp only [HistD.agg, HistD.dv, HistD.sv, HistD.nv] at HK3 ⊢
    have hl3 := HV3.out.lt
    go_upto_region 5 with fail
    generalize hW : w3.alloc _ = w4
    have hV4 : VarAt w4 w.heap.size 26 [.slice da ds.length dc, .slice sa seen.length sc, .slice na snaps.length nc] := by rw [← hW]; exact HV3.out.alloc _
    have hX4 : VarAt w4 w3.heap.size 34 [.slice a1 ds.length q1, .slice a2 seen'.length q2, .slice a3 snaps'.length q3] := by rw [← hW]; exact VarAt.new w3 34 _
    have hb34 : Below w3.heap.size w3 w4 := by rw [← hW]; exact below1 _ _
    have hB4 := HB3.out.trans (hb34.mono HB3.out.size)
    have hok4 : HistOk w4 ⟨ds, seen, snaps, da, dc, sa, sc, na, nc⟩ := HOK.out.keep hB4
    have hok4' : HistOk w4 ⟨ds, seen', snaps', a1, q1, a2, q2, a3, q3⟩ := HK3.out.keep hb34
    have HV4 := Lib.hid hV4
    have HX4 := Lib.hid hX4
    have HB4 := Lib.hid hB4
    have HO4 := Lib.hid hok4
    have HO4' := Lib.hid hok4'
    have x0 := hX4.cell (j := 0) rfl
    have x1 := hX4.cell (j := 1) rfl
    have x2 := hX4.cell (j := 2) rfl
    have xl := hX4.lt
    clear hW hV4 hX4 hb34 hB4 hok4 HOK HK3 HE1 H10 HV1 HV2 HV3 HB1 HB2 HB3
    have hr' : RowOf encDone 6 w4 (.slice a1 ds.length q1) ds := hok4'.1
    have h11 := c11 (.slice a2 seen'.length q2) (.slice a3 snaps'.length q3) hr' (by omega)
    clear hok4' hr'
    go_wp2_with fail
    refine h11.mono ?_
    rintro e w5 ⟨v, rfl, hv, hb5⟩
    obtain ⟨va, vc, rfl, -⟩ := id hv
    have HV := Lib.hid hv
    have HB5 := Lib.hid hb5
    have hwl := wit_len ds
    have HEQ := Lib.hid (rfl : wit ds = wit ds)
    clear hv hb5 x0 x1 x2 xl
    go_wp2_with fail
    go_loopw [8, 10] (fun out i wr => IdsRel (wit ds) w5 out i wr) (fun _ i _ => (wit ds).length - (intOf i).toNat)
    case atStart => exact ⟨0, by omega, rfl, World.ownsRow_nil _ _ _ _, Below.refl _ _⟩
    case round =>
      obtain ⟨m, hm, rfl, how, hbx⟩ := hrel
      obtain ⟨oa, oc, rfl⟩ := owns_slice how
      have HO := Lib.hid how
      have HBX := Lib.hid hbx
      rcases Nat.lt_or_ge m (wit ds).length with hlt | hge
      · obtain ⟨b, o, d, rfl, hbl, hd, hc0, hc1, -, -, -, -⟩ := HV.out.doneAt hlt
        rw [← hbx.cell (p := ⟨b, o + m * 6, none⟩) hbl] at hc0
        rw [← hbx.cell (p := ⟨b, o + m * 6 + 1, none⟩) hbl] at hc1
        have hmI : (m : Int) < ((wit ds).length : Int) := by omega
        have hst := idsOf_take hd
        have HST := Lib.hid hst
        have hsz := hbx.size
        generalize hI : idsOf ((wit ds).take m) = I at *
        have HI := Lib.hid hI
        clear how hbx hst hd hI
        go_wp2_with (first
          | (at_builtin
             refine append_new wr rfl (.tmp 39) (.tmp 46) 36 rfl w5.heap.size 39 (.agg #[.int .i64 0, .int .i64 0]) 2 16 underlying36 info39 rfl (by decide) (encId d.txn.id) rfl (by simp [encId, Value.oneCell']) (.slice oa m oc) m (I.flatMap encId) (by rfl) HO.out (by rfl) (by unfold maxLen; omega) (by omega) (by omega) ?_
             intro v' w6 hown3 hg3 hn3
             have HO3 := Lib.hid hown3
             have HB3 := Lib.hid (HBX.out.grown hg3 (by omega) (fun k hk => (HO.out.lt k hk).1))
             clear hown3 hg3 hn3)
          | fail)
        go_tidy
        refine ⟨⟨m + 1, by omega, rfl, ?_, HB3.out⟩, by simp [intOf]; omega⟩
        rw [HST.out, List.flatMap_append]
        simpa using HO3.out
      · obtain rfl : m = (wit ds).length := by omega
        rw [List.take_length] at how
        have HR8 := Lib.hid (RowOf.of_owns (enc := encId) (k := 2) (fun _ => rfl) how (by unfold idsOf; simp))
        clear how
        obtain ⟨w6, rfl⟩ : ∃ w6 : World, w6 = wr := ⟨_, rfl⟩
        have hb46 := HB5.out.trans (hbx.mono HB5.out.size)
        have HB46 := Lib.hid hb46
        clear hbx
        go_wp2_with fail
        go_loopw [11] (fun i wr => OrdRel ds.length w6 i wr) (fun i _ => ds.length - (intOf i).toNat)
        case atStart => exact ⟨0, by omega, rfl, Below.refl _ _⟩
        case round =>
          obtain ⟨k, hk, rfl, hbr⟩ := hrel
          have hb4r := HB46.out.trans (hbr.mono HB46.out.size)
          have HB6R := Lib.hid hbr
          have HB4R := Lib.hid hb4r
          have hVr := HV4.out.keep hb4r HV4.out.lt
          have hXr := HX4.out.keep hb4r HX4.out.lt
          have v0 := hVr.cell (j := 0) rfl
          have vl := hVr.lt
          have xl := hXr.lt
          rcases Nat.lt_or_ge k ds.length with hlt2 | hge2
          · obtain ⟨b, o, d, rfl, hbl, hd, hc0, hc1, -, -, -, -⟩ := HO4.out.1.doneAt hlt2
            rw [← hb4r.cell (p := ⟨b, o + k * 6, none⟩) hbl] at hc0
            rw [← hb4r.cell (p := ⟨b, o + k * 6 + 1, none⟩) hbl] at hc1
            have hbr2 : b < wr.heap.size := Nat.lt_of_lt_of_le hbl hb4r.size
            obtain ⟨⟨⟨s1, i1⟩, trd, tws, tra, trc, twa, twc⟩, dy, dst⟩ := d
            simp only at hc0 hc1
            have hkI : (k : Int) < (ds.length : Int) := by omega
            have sk : ∀ W, Below wr.heap.size wr W → OrdS w.heap.size w3.heap.size (.slice (some ⟨b, o, none⟩) ds.length dc) (.slice sa seen.length sc) (.slice na snaps.length nc) (.slice a1 ds.length q1) (.slice a2 seen'.length q2) (.slice a3 snaps'.length q3) b (o + k * 6) s1 i1 W := fun W hb => by
              have g1 := hVr.keep hb hVr.lt
              have g2 := hXr.keep hb hXr.lt
              exact ⟨g1.cell (j := 0) rfl, g1.cell (j := 1) rfl, g1.cell (j := 2) rfl, g2.cell (j := 0) rfl, g2.cell (j := 1) rfl, g2.cell (j := 2) rfl, by rw [hb.cell (p := ⟨b, o + k * 6, none⟩) hbr2]; exact hc0, by rw [hb.cell (p := ⟨b, o + k * 6 + 1, none⟩) hbr2]; exact hc1⟩
            have t12 : ∀ W, Below wr.heap.size wr W → Calls Try.prog 12 #[.agg #[.slice (some ⟨b, o, none⟩) ds.length dc, .slice sa seen.length sc, .slice na snaps.length nc], .agg #[.int .i64 s1, .int .i64 i1], .string key] W (AheadEnd (ahead ⟨s1, i1⟩ key zeroVal (wit ds)) wr W) := fun W hb => (c12 (HO4.out.keep (hb4r.trans (hb.mono hb4r.size))) (by simp only; omega) ⟨s1, i1⟩ key).mono fun e w' ⟨h1, h2⟩ => ⟨h1, hb.trans (h2.mono hb.size), h2⟩
            have t13 : ∀ W, Below wr.heap.size wr W → Calls Try.prog 13 #[.agg #[.slice a1 ds.length q1, .slice a2 seen'.length q2, .slice a3 snaps'.length q3], .agg #[.int .i64 s1, .int .i64 i1], .string key] W (AheadEnd (ahead ⟨s1, i1⟩ key zeroVal (wit ds)) wr W) := fun W hb => (c13 (HO4'.out.keep (hb4r.trans (hb.mono hb4r.size))) (by simp only; omega) ⟨s1, i1⟩ key).mono fun e w' ⟨h1, h2⟩ => ⟨h1, hb.trans (h2.mono hb.size), h2⟩
            generalize ahead ⟨s1, i1⟩ key zeroVal (wit ds) = ov at t12 t13
            unfold AheadEnd aheadV at t12 t13
            generalize ov.getD zeroVal = u at t12 t13
            generalize ov.isSome = ob at t12 t13
            have SK := Lib.hid sk
            have G12 := Lib.hid t12
            have G13 := Lib.hid t13
            have hne := neq47 u u
            simp only [ValD.agg, decide_true, Bool.not_true] at hne
            have hS0 : Below wr.heap.size wr wr := Below.refl _ _
            have hS1 : Below wr.heap.size wr (wr.alloc (.cells (encVal zeroVal).toArray 47)).drew := (hS0.alloc (Nat.le_refl _) _).drew
            clear sk t12 t13 hVr hXr hbr hb4r hc0 hc1 hd
            go_upto_region 13 with fail
            go_cut [12, 13] (fun p okv wx => ∃ g : Nat, p = .pointer (some ⟨g, 0, none⟩) ∧ okv = .bool ob ∧ VarAt wx g 47 (encVal u) ∧ Below wr.heap.size wr wx ∧ wr.heap.size ≤ g)
            case first => as_aux_lemma =>
              refine wp_region_noPanic ?_
              refine till_start (OrdS w.heap.size w3.heap.size (.slice (some ⟨b, o, none⟩) ds.length dc) (.slice sa seen.length sc) (.slice na snaps.length nc) (.slice a1 ds.length q1) (.slice a2 seen'.length q2) (.slice a3 snaps'.length q3) b (o + k * 6) s1 i1) 15 (by kernel_rfl) ?_
              have hS := SK.out wr.drew hS0.drew
              show AnyTill _ _ _ _ _ _ 16 (Array.replicate 16 false) _ _
              refine till_take 0 (v := ?_) rfl (by kernel_rfl) (fun _ _ _ h => h) (Or.inl ⟨by rfl, ?_⟩) hS ?_
              rotate_left
              focus (intro w' hSw; obtain ⟨hs0, hs1, hs2, hs3, hs4, hs5, hs6, hs7⟩ := hSw; go_simp; try (with_reducible rfl))
              try simp only [Act.put, List.setIfInBounds_toArray, List.set_cons_zero, List.set_cons_succ]
              refine till_take 1 (v := ?_) rfl (by kernel_rfl) (fun _ _ _ h => h) (Or.inl ⟨by rfl, ?_⟩) hS ?_
              rotate_left
              focus (intro w' hSw; obtain ⟨hs0, hs1, hs2, hs3, hs4, hs5, hs6, hs7⟩ := hSw; go_simp; try (with_reducible rfl))
              try simp only [Act.put, List.setIfInBounds_toArray, List.set_cons_zero, List.set_cons_succ]
              refine till_take 2 (v := ?_) rfl (by kernel_rfl) (fun _ _ _ h => h) (Or.inl ⟨by rfl, ?_⟩) hS ?_
              rotate_left
              focus (intro w' hSw; obtain ⟨hs0, hs1, hs2, hs3, hs4, hs5, hs6, hs7⟩ := hSw; go_simp; try (with_reducible rfl))
              try simp only [Act.put, List.setIfInBounds_toArray, List.set_cons_zero, List.set_cons_succ]
              refine till_take 3 (v := ?_) rfl (by kernel_rfl) (fun _ _ _ h => h) (Or.inl ⟨by rfl, ?_⟩) hS ?_
              rotate_left
              focus (intro w' hSw; obtain ⟨hs0, hs1, hs2, hs3, hs4, hs5, hs6, hs7⟩ := hSw; go_simp; try (with_reducible rfl))
              try simp only [Act.put, List.setIfInBounds_toArray, List.set_cons_zero, List.set_cons_succ]
              refine till_take 4 (v := ?_) rfl (by kernel_rfl) (fun _ _ _ h => h) (Or.inl ⟨by rfl, ?_⟩) hS ?_
              rotate_left
              focus (intro w' hSw; obtain ⟨hs0, hs1, hs2, hs3, hs4, hs5, hs6, hs7⟩ := hSw; go_simp; try (with_reducible rfl))
              try simp only [Act.put, List.setIfInBounds_toArray, List.set_cons_zero, List.set_cons_succ]
              refine till_take 5 (v := ?_) rfl (by kernel_rfl) (fun _ _ _ h => h) (Or.inl ⟨by rfl, ?_⟩) hS ?_
              rotate_left
              focus (intro w' hSw; obtain ⟨hs0, hs1, hs2, hs3, hs4, hs5, hs6, hs7⟩ := hSw; go_simp; try (with_reducible rfl))
              try simp only [Act.put, List.setIfInBounds_toArray, List.set_cons_zero, List.set_cons_succ]
              refine till_take 6 (v := ?_) rfl (by kernel_rfl) (fun _ _ _ h => h) (Or.inl ⟨by rfl, ?_⟩) hS ?_
              rotate_left
              focus (intro w' hSw; obtain ⟨hs0, hs1, hs2, hs3, hs4, hs5, hs6, hs7⟩ := hSw; go_simp; try (with_reducible rfl))
              try simp only [Act.put, List.setIfInBounds_toArray, List.set_cons_zero, List.set_cons_succ]
              refine till_take 7 (v := ?_) rfl (by kernel_rfl) (fun _ _ _ h => h) (Or.inl ⟨by rfl, ?_⟩) hS ?_
              rotate_left
              focus (intro w' hSw; obtain ⟨hs0, hs1, hs2, hs3, hs4, hs5, hs6, hs7⟩ := hSw; go_simp; try (with_reducible rfl))
              try simp only [Act.put, List.setIfInBounds_toArray, List.set_cons_zero, List.set_cons_succ]
              refine till_take 8 (v := ?_) rfl (by kernel_rfl) (fun _ _ _ h => h) (Or.inl ⟨by rfl, ?_⟩) hS ?_
              rotate_left
              focus (intro w' hSw; obtain ⟨hs0, hs1, hs2, hs3, hs4, hs5, hs6, hs7⟩ := hSw; go_simp; try (with_reducible rfl))
              try simp only [Act.put, List.setIfInBounds_toArray, List.set_cons_zero, List.set_cons_succ]
              refine till_ready [9, 13] (by kernel_rfl) (TillReady.cons 9 rfl (fun K hK => ?_) (TillReady.cons 13 rfl (fun K hK => ?_) TillReady.nil))
              · go_simp
                refine (G12.out wr.drew hS0.drew).mono ?_
                rintro e w9 ⟨rfl, -, hb9⟩
                have hb5 : Below wr.heap.size wr w9 := hS0.drew.trans hb9
                clear hS
                have hS := SK.out w9 hb5
                refine (Hid.out hK) _ _ (fun _ => hS) ?_
                try simp only [Act.put, List.setIfInBounds_toArray, List.set_cons_zero, List.set_cons_succ]
                refine till_take 10 (v := ?_) rfl (by kernel_rfl) (fun _ _ _ h => h) (Or.inl ⟨by rfl, ?_⟩) hS ?_
                rotate_left
                focus (intro w' hSw; obtain - := hSw; go_simp; try (with_reducible rfl))
                try simp only [Act.put, List.setIfInBounds_toArray, List.set_cons_zero, List.set_cons_succ]
                refine till_take 11 (v := ?_) rfl (by kernel_rfl) (fun _ _ _ h => h) (Or.inl ⟨by rfl, ?_⟩) hS ?_
                rotate_left
                focus (intro w' hSw; obtain - := hSw; go_simp; try (with_reducible rfl))
                try simp only [Act.put, List.setIfInBounds_toArray, List.set_cons_zero, List.set_cons_succ]
                refine till_take 12 (v := ?_) rfl (by kernel_rfl) (fun _ _ _ h => h) (Or.inl ⟨by rfl, ?_⟩) hS ?_
                rotate_left
                focus (intro w' hSw; obtain - := hSw; go_simp; try (with_reducible rfl))
                try simp only [Act.put, List.setIfInBounds_toArray, List.set_cons_zero, List.set_cons_succ]
                refine till_ready [13] (by kernel_rfl) (TillReady.cons 13 rfl (fun K hK => ?_) TillReady.nil)
                go_simp
                have hb6 := hb5.alloc hb5.size (.cells (encVal zeroVal).toArray 47)
                have hS := SK.out _ hb6
                refine (Hid.out hK) _ _ (fun _ => hS) ?_
                try simp only [Act.put, List.setIfInBounds_toArray, List.set_cons_zero, List.set_cons_succ]
                refine till_ready [14] (by kernel_rfl) (TillReady.cons 14 rfl (fun K hK => ?_) TillReady.nil)
                go_simp
                have hb7 := hb5.alloc hb5.size (.cells (encVal u).toArray 47)
                have hS := SK.out _ hb7
                refine (Hid.out hK) _ _ (fun _ => hS) ?_
                try simp only [Act.put, List.setIfInBounds_toArray, List.set_cons_zero, List.set_cons_succ]
                refine till_ready [15] (by kernel_rfl) (TillReady.cons 15 rfl (fun K hK => ?_) TillReady.nil)
                go_simp
                refine (Hid.out hK) _ _ (fun h => absurd rfl h) ?_
                refine till_done (by kernel_rfl) ?_
                refine NoPanic.normal ?_
                go_wp2
                go_meet
                exact ⟨_, rfl, rfl, VarAt.new w9 47 (encVal u), hb7, hb5.size⟩
              · go_simp
                clear hS
                have hS := SK.out _ hS1
                refine (Hid.out hK) _ _ (fun _ => hS) ?_
                try simp only [Act.put, List.setIfInBounds_toArray, List.set_cons_zero, List.set_cons_succ]
                refine till_ready [9] (by kernel_rfl) (TillReady.cons 9 rfl (fun K hK => ?_) TillReady.nil)
                go_simp
                refine (G12.out (wr.alloc (.cells (encVal zeroVal).toArray 47)).drew hS1).mono ?_
                rintro e w9 ⟨rfl, -, hb6⟩
                have hb5 : Below wr.heap.size wr w9 := hS1.trans (hb6.mono hS1.size)
                clear hS
                have hS := SK.out w9 hb5
                have hn := VarAt.keep (VarAt.new wr 47 (encVal zeroVal)).drew hb6 (by simp)
                have n0 := hn.cell (j := 0) rfl
                have n1 := hn.cell (j := 1) rfl
                have n2 := hn.cell (j := 2) rfl
                have k0 := hn.free 0
                have k1 := hn.free 1
                have k2 := hn.free 2
                have hl5 := hn.lt
                have HN := Lib.hid hn
                clear hn hb6
                refine (Hid.out hK) _ _ (fun _ => hS) ?_
                try simp only [Act.put, List.setIfInBounds_toArray, List.set_cons_zero, List.set_cons_succ]
                refine till_take 10 (v := ?_) rfl (by kernel_rfl) (fun _ _ _ h => h) (Or.inl ⟨by rfl, ?_⟩) hS ?_
                rotate_left
                focus (intro w' hSw; obtain - := hSw; go_simp; try (with_reducible rfl))
                try simp only [Act.put, List.setIfInBounds_toArray, List.set_cons_zero, List.set_cons_succ]
                refine till_take 11 (v := ?_) rfl (by kernel_rfl) (fun _ _ _ h => h) (Or.inl ⟨by rfl, ?_⟩) hS ?_
                rotate_left
                focus (intro w' hSw; obtain - := hSw; go_simp; try (with_reducible rfl))
                try simp only [Act.put, List.setIfInBounds_toArray, List.set_cons_zero, List.set_cons_succ]
                refine till_take 12 (v := ?_) rfl (by kernel_rfl) (fun _ _ _ h => h) (Or.inl ⟨by rfl, ?_⟩) hS ?_
                rotate_left
                focus (intro w' hSw; obtain - := hSw; go_simp; try (with_reducible rfl))
                try simp only [Act.put, List.setIfInBounds_toArray, List.set_cons_zero, List.set_cons_succ]
                refine till_ready [14] (by kernel_rfl) (TillReady.cons 14 rfl (fun K hK => ?_) TillReady.nil)
                go_simp
                have hb7 : Below wr.heap.size wr (((w9.setCell ⟨wr.heap.size, 0, none⟩ (.int .i64 u.kind)).setCell ⟨wr.heap.size, 1, none⟩ (.int .u64 u.bits)).setCell ⟨wr.heap.size, 2, none⟩ (.string u.text)) := ((hb5.setCell (Nat.le_refl _) _).setCell (Nat.le_refl _) _).setCell (Nat.le_refl _) _
                have hS := SK.out _ hb7
                refine (Hid.out hK) _ _ (fun _ => hS) ?_
                try simp only [Act.put, List.setIfInBounds_toArray, List.set_cons_zero, List.set_cons_succ]
                refine till_ready [15] (by kernel_rfl) (TillReady.cons 15 rfl (fun K hK => ?_) TillReady.nil)
                go_simp
                refine (Hid.out hK) _ _ (fun h => absurd rfl h) ?_
                refine till_done (by kernel_rfl) ?_
                refine NoPanic.normal ?_
                go_wp2
                go_meet
                exact ⟨_, rfl, rfl, ((HN.out.set 0 (.int .i64 u.kind)).set 1 (.int .u64 u.bits)).set 2 (.string u.text), hb7, Nat.le_refl _⟩
            case rest =>
              obtain ⟨g, rfl, rfl, hg, hbx, hgl⟩ := hcut
              obtain ⟨wa, rfl⟩ : ∃ wa : World, wa = wc := ⟨_, rfl⟩
              have HG := Lib.hid hg
              have HBA := Lib.hid hbx
              have hS0 : Below wa.heap.size wa wa := Below.refl _ _
              have hS1 : Below wa.heap.size wa (wa.alloc (.cells (encVal zeroVal).toArray 47)).drew := (hS0.alloc (Nat.le_refl _) _).drew
              have gl := hg.lt
              clear hg hbx v0 vl xl
              go_upto_region 14 with fail
              go_cut [14, 15] (fun p okv wx => ∃ g : Nat, p = .pointer (some ⟨g, 0, none⟩) ∧ okv = .bool ob ∧ VarAt wx g 47 (encVal u) ∧ Below wa.heap.size wa wx ∧ wa.heap.size ≤ g)
              case first => as_aux_lemma =>
                refine wp_region_noPanic ?_
                refine till_start (OrdS w.heap.size w3.heap.size (.slice (some ⟨b, o, none⟩) ds.length dc) (.slice sa seen.length sc) (.slice na snaps.length nc) (.slice a1 ds.length q1) (.slice a2 seen'.length q2) (.slice a3 snaps'.length q3) b (o + k * 6) s1 i1) 15 (by kernel_rfl) ?_
                have hS := SK.out _ (HBA.out.trans (hS0.drew.mono HBA.out.size))
                show AnyTill _ _ _ _ _ _ 16 (Array.replicate 16 false) _ _
                refine till_take 0 (v := ?_) rfl (by kernel_rfl) (fun _ _ _ h => h) (Or.inl ⟨by rfl, ?_⟩) hS ?_
                rotate_left
                focus (intro w' hSw; obtain ⟨hs0, hs1, hs2, hs3, hs4, hs5, hs6, hs7⟩ := hSw; go_simp; try (with_reducible rfl))
                try simp only [Act.put, List.setIfInBounds_toArray, List.set_cons_zero, List.set_cons_succ]
                refine till_take 1 (v := ?_) rfl (by kernel_rfl) (fun _ _ _ h => h) (Or.inl ⟨by rfl, ?_⟩) hS ?_
                rotate_left
                focus (intro w' hSw; obtain ⟨hs0, hs1, hs2, hs3, hs4, hs5, hs6, hs7⟩ := hSw; go_simp; try (with_reducible rfl))
                try simp only [Act.put, List.setIfInBounds_toArray, List.set_cons_zero, List.set_cons_succ]
                refine till_take 2 (v := ?_) rfl (by kernel_rfl) (fun _ _ _ h => h) (Or.inl ⟨by rfl, ?_⟩) hS ?_
                rotate_left
                focus (intro w' hSw; obtain ⟨hs0, hs1, hs2, hs3, hs4, hs5, hs6, hs7⟩ := hSw; go_simp; try (with_reducible rfl))
                try simp only [Act.put, List.setIfInBounds_toArray, List.set_cons_zero, List.set_cons_succ]
                refine till_take 3 (v := ?_) rfl (by kernel_rfl) (fun _ _ _ h => h) (Or.inl ⟨by rfl, ?_⟩) hS ?_
                rotate_left
                focus (intro w' hSw; obtain ⟨hs0, hs1, hs2, hs3, hs4, hs5, hs6, hs7⟩ := hSw; go_simp; try (with_reducible rfl))
                try simp only [Act.put, List.setIfInBounds_toArray, List.set_cons_zero, List.set_cons_succ]
                refine till_take 4 (v := ?_) rfl (by kernel_rfl) (fun _ _ _ h => h) (Or.inl ⟨by rfl, ?_⟩) hS ?_
                rotate_left
                focus (intro w' hSw; obtain ⟨hs0, hs1, hs2, hs3, hs4, hs5, hs6, hs7⟩ := hSw; go_simp; try (with_reducible rfl))
                try simp only [Act.put, List.setIfInBounds_toArray, List.set_cons_zero, List.set_cons_succ]
                refine till_take 5 (v := ?_) rfl (by kernel_rfl) (fun _ _ _ h => h) (Or.inl ⟨by rfl, ?_⟩) hS ?_
                rotate_left
                focus (intro w' hSw; obtain ⟨hs0, hs1, hs2, hs3, hs4, hs5, hs6, hs7⟩ := hSw; go_simp; try (with_reducible rfl))
                try simp only [Act.put, List.setIfInBounds_toArray, List.set_cons_zero, List.set_cons_succ]
                refine till_take 6 (v := ?_) rfl (by kernel_rfl) (fun _ _ _ h => h) (Or.inl ⟨by rfl, ?_⟩) hS ?_
                rotate_left
                focus (intro w' hSw; obtain ⟨hs0, hs1, hs2, hs3, hs4, hs5, hs6, hs7⟩ := hSw; go_simp; try (with_reducible rfl))
                try simp only [Act.put, List.setIfInBounds_toArray, List.set_cons_zero, List.set_cons_succ]
                refine till_take 7 (v := ?_) rfl (by kernel_rfl) (fun _ _ _ h => h) (Or.inl ⟨by rfl, ?_⟩) hS ?_
                rotate_left
                focus (intro w' hSw; obtain ⟨hs0, hs1, hs2, hs3, hs4, hs5, hs6, hs7⟩ := hSw; go_simp; try (with_reducible rfl))
                try simp only [Act.put, List.setIfInBounds_toArray, List.set_cons_zero, List.set_cons_succ]
                refine till_take 8 (v := ?_) rfl (by kernel_rfl) (fun _ _ _ h => h) (Or.inl ⟨by rfl, ?_⟩) hS ?_
                rotate_left
                focus (intro w' hSw; obtain ⟨hs0, hs1, hs2, hs3, hs4, hs5, hs6, hs7⟩ := hSw; go_simp; try (with_reducible rfl))
                try simp only [Act.put, List.setIfInBounds_toArray, List.set_cons_zero, List.set_cons_succ]
                refine till_ready [9, 13] (by kernel_rfl) (TillReady.cons 9 rfl (fun K hK => ?_) (TillReady.cons 13 rfl (fun K hK => ?_) TillReady.nil))
                · go_simp
                  refine (G13.out wa.drew (HBA.out.trans (Below.mono hS0.drew HBA.out.size))).mono ?_
                  rintro e w9 ⟨rfl, -, hb9⟩
                  have hb5 : Below wa.heap.size wa w9 := hS0.drew.trans hb9
                  clear hS
                  have hS := SK.out w9 (HBA.out.trans (Below.mono hb5 HBA.out.size))
                  refine (Hid.out hK) _ _ (fun _ => hS) ?_
                  try simp only [Act.put, List.setIfInBounds_toArray, List.set_cons_zero, List.set_cons_succ]
                  refine till_take 10 (v := ?_) rfl (by kernel_rfl) (fun _ _ _ h => h) (Or.inl ⟨by rfl, ?_⟩) hS ?_
                  rotate_left
                  focus (intro w' hSw; obtain - := hSw; go_simp; try (with_reducible rfl))
                  try simp only [Act.put, List.setIfInBounds_toArray, List.set_cons_zero, List.set_cons_succ]
                  refine till_take 11 (v := ?_) rfl (by kernel_rfl) (fun _ _ _ h => h) (Or.inl ⟨by rfl, ?_⟩) hS ?_
                  rotate_left
                  focus (intro w' hSw; obtain - := hSw; go_simp; try (with_reducible rfl))
                  try simp only [Act.put, List.setIfInBounds_toArray, List.set_cons_zero, List.set_cons_succ]
                  refine till_take 12 (v := ?_) rfl (by kernel_rfl) (fun _ _ _ h => h) (Or.inl ⟨by rfl, ?_⟩) hS ?_
                  rotate_left
                  focus (intro w' hSw; obtain - := hSw; go_simp; try (with_reducible rfl))
                  try simp only [Act.put, List.setIfInBounds_toArray, List.set_cons_zero, List.set_cons_succ]
                  refine till_ready [13] (by kernel_rfl) (TillReady.cons 13 rfl (fun K hK => ?_) TillReady.nil)
                  go_simp
                  have hb6 := hb5.alloc hb5.size (.cells (encVal zeroVal).toArray 47)
                  have hS := SK.out _ (HBA.out.trans (Below.mono hb6 HBA.out.size))
                  refine (Hid.out hK) _ _ (fun _ => hS) ?_
                  try simp only [Act.put, List.setIfInBounds_toArray, List.set_cons_zero, List.set_cons_succ]
                  refine till_ready [14] (by kernel_rfl) (TillReady.cons 14 rfl (fun K hK => ?_) TillReady.nil)
                  go_simp
                  have hb7 := hb5.alloc hb5.size (.cells (encVal u).toArray 47)
                  have hS := SK.out _ (HBA.out.trans (Below.mono hb7 HBA.out.size))
                  refine (Hid.out hK) _ _ (fun _ => hS) ?_
                  try simp only [Act.put, List.setIfInBounds_toArray, List.set_cons_zero, List.set_cons_succ]
                  refine till_ready [15] (by kernel_rfl) (TillReady.cons 15 rfl (fun K hK => ?_) TillReady.nil)
                  go_simp
                  refine (Hid.out hK) _ _ (fun h => absurd rfl h) ?_
                  refine till_done (by kernel_rfl) ?_
                  refine NoPanic.normal ?_
                  go_wp2
                  go_meet
                  exact ⟨_, rfl, rfl, VarAt.new w9 47 (encVal u), hb7, hb5.size⟩
                · go_simp
                  clear hS
                  have hS := SK.out _ (HBA.out.trans (Below.mono hS1 HBA.out.size))
                  refine (Hid.out hK) _ _ (fun _ => hS) ?_
                  try simp only [Act.put, List.setIfInBounds_toArray, List.set_cons_zero, List.set_cons_succ]
                  refine till_ready [9] (by kernel_rfl) (TillReady.cons 9 rfl (fun K hK => ?_) TillReady.nil)
                  go_simp
                  refine (G13.out (wa.alloc (.cells (encVal zeroVal).toArray 47)).drew (HBA.out.trans (Below.mono hS1 HBA.out.size))).mono ?_
                  rintro e w9 ⟨rfl, -, hb6⟩
                  have hb5 : Below wa.heap.size wa w9 := hS1.trans (hb6.mono hS1.size)
                  clear hS
                  have hS := SK.out w9 (HBA.out.trans (Below.mono hb5 HBA.out.size))
                  have hn := VarAt.keep (VarAt.new wa 47 (encVal zeroVal)).drew hb6 (by simp)
                  have n0 := hn.cell (j := 0) rfl
                  have n1 := hn.cell (j := 1) rfl
                  have n2 := hn.cell (j := 2) rfl
                  have k0 := hn.free 0
                  have k1 := hn.free 1
                  have k2 := hn.free 2
                  have hl5 := hn.lt
                  have HN := Lib.hid hn
                  clear hn hb6
                  refine (Hid.out hK) _ _ (fun _ => hS) ?_
                  try simp only [Act.put, List.setIfInBounds_toArray, List.set_cons_zero, List.set_cons_succ]
                  refine till_take 10 (v := ?_) rfl (by kernel_rfl) (fun _ _ _ h => h) (Or.inl ⟨by rfl, ?_⟩) hS ?_
                  rotate_left
                  focus (intro w' hSw; obtain - := hSw; go_simp; try (with_reducible rfl))
                  try simp only [Act.put, List.setIfInBounds_toArray, List.set_cons_zero, List.set_cons_succ]
                  refine till_take 11 (v := ?_) rfl (by kernel_rfl) (fun _ _ _ h => h) (Or.inl ⟨by rfl, ?_⟩) hS ?_
                  rotate_left
                  focus (intro w' hSw; obtain - := hSw; go_simp; try (with_reducible rfl))
                  try simp only [Act.put, List.setIfInBounds_toArray, List.set_cons_zero, List.set_cons_succ]
                  refine till_take 12 (v := ?_) rfl (by kernel_rfl) (fun _ _ _ h => h) (Or.inl ⟨by rfl, ?_⟩) hS ?_
                  rotate_left
                  focus (intro w' hSw; obtain - := hSw; go_simp; try (with_reducible rfl))
                  try simp only [Act.put, List.setIfInBounds_toArray, List.set_cons_zero, List.set_cons_succ]
                  refine till_ready [14] (by kernel_rfl) (TillReady.cons 14 rfl (fun K hK => ?_) TillReady.nil)
                  go_simp
                  have hb7 : Below wa.heap.size wa (((w9.setCell ⟨wa.heap.size, 0, none⟩ (.int .i64 u.kind)).setCell ⟨wa.heap.size, 1, none⟩ (.int .u64 u.bits)).setCell ⟨wa.heap.size, 2, none⟩ (.string u.text)) := ((hb5.setCell (Nat.le_refl _) _).setCell (Nat.le_refl _) _).setCell (Nat.le_refl _) _
                  have hS := SK.out _ (HBA.out.trans (Below.mono hb7 HBA.out.size))
                  refine (Hid.out hK) _ _ (fun _ => hS) ?_
                  try simp only [Act.put, List.setIfInBounds_toArray, List.set_cons_zero, List.set_cons_succ]
                  refine till_ready [15] (by kernel_rfl) (TillReady.cons 15 rfl (fun K hK => ?_) TillReady.nil)
                  go_simp
                  refine (Hid.out hK) _ _ (fun h => absurd rfl h) ?_
                  refine till_done (by kernel_rfl) ?_
                  refine NoPanic.normal ?_
                  go_wp2
                  go_meet
                  exact ⟨_, rfl, rfl, ((HN.out.set 0 (.int .i64 u.kind)).set 1 (.int .u64 u.bits)).set 2 (.string u.text), hb7, Nat.le_refl _⟩
              case rest =>
                obtain ⟨g2, rfl, rfl, hg2, hbx2, hgl2⟩ := hcut
                have hg1 := HG.out.keep hbx2 gl
                have p0 := hg1.cell (j := 0) rfl
                have p1 := hg1.cell (j := 1) rfl
                have p2 := hg1.cell (j := 2) rfl
                have pl := hg1.lt
                have r0 := hg2.cell (j := 0) rfl
                have r1 := hg2.cell (j := 1) rfl
                have r2 := hg2.cell (j := 2) rfl
                have rl := hg2.lt
                have HBB := Lib.hid (HB6R.out.trans ((HBA.out.trans (hbx2.mono HBA.out.size)).mono HB6R.out.size))
                clear hg1 hg2 hbx2
                cases ob
                all_goals
                  go_wp2_with fail
                  go_tidy
                  exact ⟨⟨k + 1, by omega, rfl, HBB.out⟩, by simp [intOf]; omega⟩
          · obtain rfl : k = ds.length := by omega
            have sk : ∀ W, Below wr.heap.size wr W → Two3' w.heap.size w3.heap.size (.slice da ds.length dc) (.slice sa seen.length sc) (.slice na snaps.length nc) (.slice a1 ds.length q1) (.slice a2 seen'.length q2) (.slice a3 snaps'.length q3) W := fun W hb => by
              have g1 := hVr.keep hb hVr.lt
              have g2 := hXr.keep hb hXr.lt
              exact ⟨g1.cell (j := 0) rfl, g1.cell (j := 1) rfl, g1.cell (j := 2) rfl, g2.cell (j := 0) rfl, g2.cell (j := 1) rfl, g2.cell (j := 2) rfl⟩
            have t15 : ∀ W, Below wr.heap.size wr W → Calls Try.prog 15 #[.agg #[.slice da ds.length dc, .slice sa seen.length sc, .slice na snaps.length nc]] W (IdsEnd2 ds wr) := fun W hb => (c15 (.slice sa seen.length sc) (.slice na snaps.length nc) (HO4.out.keep (hb4r.trans (hb.mono hb4r.size))).1 (by simp only; omega)).mono fun e w' ⟨v, h1, h2, h3⟩ => ⟨v, h1, h2, hb.trans (h3.mono hb.size)⟩
            have t14 : ∀ W v, Below wr.heap.size wr W → RowOf encId 2 W v (idsOf (wit ds)) → Calls Try.prog 14 #[v, .slice oa (wit ds).length oc] W fun e w' => e = .returned (.bool true) ∧ Below wr.heap.size wr w' := fun W v hb hv => (c14 hv (HR8.out.keep (HB6R.out.trans (hb.mono HB6R.out.size)))).mono fun e w' ⟨b, h1, h2, h3⟩ => ⟨by rw [h1, h2.2 rfl], hb.trans (h3.mono hb.size)⟩
            have t16 : ∀ W, Below wr.heap.size wr W → Calls Try.prog 16 #[.agg #[.slice da ds.length dc, .slice sa seen.length sc, .slice na snaps.length nc], .string key, .int .u64 stamp] W fun e w' => e = .returned (atS key stamp (wit ds)).agg ∧ Below wr.heap.size wr w' := fun W hb => (c16 (HO4.out.keep (hb4r.trans (hb.mono hb4r.size))) (by simp only; omega) key stamp).mono fun e w' ⟨h1, h2⟩ => ⟨h1, hb.trans (h2.mono hb.size)⟩
            have t17 : ∀ W, Below wr.heap.size wr W → Calls Try.prog 17 #[.agg #[.slice a1 ds.length q1, .slice a2 seen'.length q2, .slice a3 snaps'.length q3], .string key, .int .u64 stamp] W fun e w' => e = .returned (atS key stamp (wit ds)).agg ∧ Below wr.heap.size wr w' := fun W hb => (c17 (HO4'.out.keep (hb4r.trans (hb.mono hb4r.size))) (by simp only; omega) key stamp).mono fun e w' ⟨h1, h2⟩ => ⟨h1, hb.trans (h2.mono hb.size)⟩
            generalize atS key stamp (wit ds) = u at t16 t17
            have heq := eql47 u u
            simp only [ValD.agg, decide_true] at heq
            simp only [ValD.agg] at t16 t17
            have SK := Lib.hid sk
            have G14 := Lib.hid t14
            have G15 := Lib.hid t15
            have G16 := Lib.hid t16
            have G17 := Lib.hid t17
            have hz : Below wr.heap.size wr wr.drew := (Below.refl _ _).drew
            clear sk t14 t15 t16 t17 hVr hXr hbr hb4r
            as_aux_lemma =>
            go_wp2_with fail
            refine wp_region_noPanic ?_
            refine till_start (Two3' w.heap.size w3.heap.size (.slice da ds.length dc) (.slice sa seen.length sc) (.slice na snaps.length nc) (.slice a1 ds.length q1) (.slice a2 seen'.length q2) (.slice a3 snaps'.length q3)) 15 (by kernel_rfl) ?_
            have hS := SK.out _ hz
            show AnyTill _ _ _ _ _ _ 16 (Array.replicate 16 false) _ _
            refine till_take 0 (v := ?_) rfl (by kernel_rfl) (fun _ _ _ h => h) (Or.inl ⟨by rfl, ?_⟩) hS ?_
            rotate_left
            focus (intro w' hSw; obtain ⟨hs0, hs1, hs2, hs3, hs4, hs5⟩ := hSw; go_simp; try (with_reducible rfl))
            try simp only [Act.put, List.setIfInBounds_toArray, List.set_cons_zero, List.set_cons_succ]
            refine till_take 2 (v := ?_) rfl (by kernel_rfl) (fun _ _ _ h => h) (Or.inl ⟨by rfl, ?_⟩) hS ?_
            rotate_left
            focus (intro w' hSw; obtain ⟨hs0, hs1, hs2, hs3, hs4, hs5⟩ := hSw; go_simp; try (with_reducible rfl))
            try simp only [Act.put, List.setIfInBounds_toArray, List.set_cons_zero, List.set_cons_succ]
            refine till_ready [1] (by kernel_rfl) (TillReady.cons 1 rfl (fun K hK => ?_) TillReady.nil)
            go_simp
            refine (G15.out wr.drew hz).mono ?_
            rintro e wx1 ⟨v15, rfl, hv15, hz1⟩
            obtain ⟨va5, vc5, rfl, -⟩ := id hv15
            have HV15 := Lib.hid hv15
            clear hv15
            clear hS
            have hS := SK.out _ hz1
            refine (Hid.out hK) _ _ (fun _ => hS) ?_
            try simp only [Act.put, List.setIfInBounds_toArray, List.set_cons_zero, List.set_cons_succ]
            refine till_ready [3] (by kernel_rfl) (TillReady.cons 3 rfl (fun K hK => ?_) TillReady.nil)
            go_simp
            refine (G14.out wx1 _ hz1 HV15.out).mono ?_
            rintro e wx2 ⟨rfl, hz2⟩
            clear hS
            have hS := SK.out _ hz2
            refine (Hid.out hK) _ _ (fun _ => hS) ?_
            try simp only [Act.put, List.setIfInBounds_toArray, List.set_cons_zero, List.set_cons_succ]
            refine till_take 4 (v := ?_) rfl (by kernel_rfl) (fun _ _ _ h => h) (Or.inl ⟨by rfl, ?_⟩) hS ?_
            rotate_left
            focus (intro w' hSw; obtain ⟨hs0, hs1, hs2, hs3, hs4, hs5⟩ := hSw; go_simp; try (with_reducible rfl))
            try simp only [Act.put, List.setIfInBounds_toArray, List.set_cons_zero, List.set_cons_succ]
            refine till_take 5 (v := ?_) rfl (by kernel_rfl) (fun _ _ _ h => h) (Or.inl ⟨by rfl, ?_⟩) hS ?_
            rotate_left
            focus (intro w' hSw; obtain ⟨hs0, hs1, hs2, hs3, hs4, hs5⟩ := hSw; go_simp; try (with_reducible rfl))
            try simp only [Act.put, List.setIfInBounds_toArray, List.set_cons_zero, List.set_cons_succ]
            refine till_take 6 (v := ?_) rfl (by kernel_rfl) (fun _ _ _ h => h) (Or.inl ⟨by rfl, ?_⟩) hS ?_
            rotate_left
            focus (intro w' hSw; obtain ⟨hs0, hs1, hs2, hs3, hs4, hs5⟩ := hSw; go_simp; try (with_reducible rfl))
            try simp only [Act.put, List.setIfInBounds_toArray, List.set_cons_zero, List.set_cons_succ]
            refine till_take 7 (v := ?_) rfl (by kernel_rfl) (fun _ _ _ h => h) (Or.inl ⟨by rfl, ?_⟩) hS ?_
            rotate_left
            focus (intro w' hSw; obtain ⟨hs0, hs1, hs2, hs3, hs4, hs5⟩ := hSw; go_simp; try (with_reducible rfl))
            try simp only [Act.put, List.setIfInBounds_toArray, List.set_cons_zero, List.set_cons_succ]
            refine till_take 9 (v := ?_) rfl (by kernel_rfl) (fun _ _ _ h => h) (Or.inl ⟨by rfl, ?_⟩) hS ?_
            rotate_left
            focus (intro w' hSw; obtain ⟨hs0, hs1, hs2, hs3, hs4, hs5⟩ := hSw; go_simp; try (with_reducible rfl))
            try simp only [Act.put, List.setIfInBounds_toArray, List.set_cons_zero, List.set_cons_succ]
            refine till_take 10 (v := ?_) rfl (by kernel_rfl) (fun _ _ _ h => h) (Or.inl ⟨by rfl, ?_⟩) hS ?_
            rotate_left
            focus (intro w' hSw; obtain ⟨hs0, hs1, hs2, hs3, hs4, hs5⟩ := hSw; go_simp; try (with_reducible rfl))
            try simp only [Act.put, List.setIfInBounds_toArray, List.set_cons_zero, List.set_cons_succ]
            refine till_take 11 (v := ?_) rfl (by kernel_rfl) (fun _ _ _ h => h) (Or.inl ⟨by rfl, ?_⟩) hS ?_
            rotate_left
            focus (intro w' hSw; obtain ⟨hs0, hs1, hs2, hs3, hs4, hs5⟩ := hSw; go_simp; try (with_reducible rfl))
            try simp only [Act.put, List.setIfInBounds_toArray, List.set_cons_zero, List.set_cons_succ]
            refine till_ready [8] (by kernel_rfl) (TillReady.cons 8 rfl (fun K hK => ?_) TillReady.nil)
            go_simp
            refine (G16.out wx2 hz2).mono ?_
            rintro e wx3 ⟨rfl, hz3⟩
            clear hS
            have hS := SK.out _ hz3
            refine (Hid.out hK) _ _ (fun _ => hS) ?_
            try simp only [Act.put, List.setIfInBounds_toArray, List.set_cons_zero, List.set_cons_succ]
            refine till_ready [12] (by kernel_rfl) (TillReady.cons 12 rfl (fun K hK => ?_) TillReady.nil)
            go_simp
            refine (G17.out wx3 hz3).mono ?_
            rintro e wx4 ⟨rfl, hz4⟩
            clear hS
            have hS := SK.out _ hz4
            refine (Hid.out hK) _ _ (fun _ => hS) ?_
            try simp only [Act.put, List.setIfInBounds_toArray, List.set_cons_zero, List.set_cons_succ]
            refine till_take 13 (v := ?_) rfl (by kernel_rfl) (fun _ _ _ h => h) (Or.inl ⟨by rfl, ?_⟩) hS ?_
            rotate_left
            focus (intro w' hSw; obtain ⟨hs0, hs1, hs2, hs3, hs4, hs5⟩ := hSw; go_simp; try (with_reducible rfl))
            try simp only [Act.put, List.setIfInBounds_toArray, List.set_cons_zero, List.set_cons_succ]
            refine till_take 14 (v := ?_) rfl (by kernel_rfl) (fun _ _ _ h => h) (Or.inl ⟨by rfl, ?_⟩) hS ?_
            rotate_left
            focus (intro w' hSw; obtain ⟨hs0, hs1, hs2, hs3, hs4, hs5⟩ := hSw; go_simp; try (with_reducible rfl))
            try simp only [Act.put, List.setIfInBounds_toArray, List.set_cons_zero, List.set_cons_succ]
            refine till_ready [15] (by kernel_rfl) (TillReady.cons 15 rfl (fun K hK => ?_) TillReady.nil)
            go_simp
            refine (Hid.out hK) _ _ (fun h => absurd rfl h) ?_
            refine till_done (by kernel_rfl) ?_
            refine NoPanic.normal ?_
            go_wp2
            go_tidy
            exact ⟨rfl, HB4.out.trans ((HB4R.out.trans (hz4.mono HB4R.out.size)).mono HB4.out.size)⟩
theorem ordersWalk (v0 v1 v2 : Value) (w : World) (a0 : ArgAt Try.prog 26 v0 w) (a1 : ArgAt Try.prog 9 v1 w) (a2 : ArgAt Try.prog 27 v2 w) : Calls Try.prog 3 #[v0, v1, v2] w fun e w' => e = .returned (.bool true) ∧ Below w.heap.size w w' := by
  obtain ⟨h, ok, rfl⟩ := a0.hist
  obtain ⟨key, rfl, hk⟩ := a1.string Try.underlying9
  obtain ⟨n, rfl, -⟩ := a2.int Try.underlying27
  exact c3 ok key hk n
end Go.Proofs.Ytmdfilffoomckaa
