/- Ahead, At: a key's value ahead of a transaction; at a stamp. Conditions: each law's own. -/
import Derived.Test.YtmdfilffoomckaaRSnaps
import Derived.Test.YtmdfilffoomckaaWitness
namespace Go.Proofs.Ytmdfilffoomckaa
open Go.ChangeShapes Go.WideShapes Go.ChangeAt Go.RowKit

theorem RowOf.other {α : Type} {enc : α → List Value} {k : Nat} {w : World} {v : Value} {xs : List α} (h : RowOf enc k w v xs) {a : Addr} (ha : v.ownBlock ≠ some a.block) (u : Value) : RowOf enc k (w.setCell a u) v xs := by
  obtain ⟨p, cap, rfl, h1, h2, h3⟩ := h
  refine ⟨p, cap, rfl, h1, h2, fun hp => ?_⟩
  obtain ⟨b, o, rfl, hlt, hc⟩ := h3 hp
  refine ⟨b, o, rfl, by simpa using hlt, fun i j x u2 hx hu => ?_⟩
  rw [World.cell?_setCell_other]
  · exact hc i j x u2 hx hu
  · intro e
    apply ha
    rw [e]; rfl
def AheadRel (w : World) (L : List DoneD) (v : Value) (id : IdD) (key : ByteArray) (i : Value) (wr : World) : Prop :=
  ∃ m : Nat, m ≤ L.length ∧ i = .int .i64 m ∧ (∀ (k : Nat) d, k < m → L[k]? = some d → d.txn.id ≠ id) ∧ VarAt wr (w.heap.size + 3) 47 (encVal (valN key (L.take m))) ∧ VarAt wr (w.heap.size + 1) 39 [.int .i64 id.s, .int .i64 id.q] ∧
    VarAt wr (w.heap.size + 2) 47 (encVal zeroVal) ∧ RowOf encDone 6 wr v L ∧ Below w.heap.size w wr
theorem VarAt.new3 (w : World) (o o' o'' : Obj) (T : TypeId) (cs : List Value) : VarAt ((((w.alloc o).alloc o').alloc o'').alloc (.cells cs.toArray T)) (w.heap.size + 3) T cs := by
  have := VarAt.new (((w.alloc o).alloc o').alloc o'') T cs
  rw [World.size_alloc, World.size_alloc, World.size_alloc] at this; exact this
set_option maxHeartbeats 4000000 in
set_option maxRecDepth 100000 in
theorem c12 {w : World} {h : HistD} (ok : HistOk w h) (hl : h.done.length ≤ 30) (id : IdD) (key : ByteArray) :
    Calls Try.prog 12 #[h.agg, id.agg, .string key] w fun e w' => e = .returned (aheadV (ahead id key zeroVal (wit h.done))) ∧ Below w.heap.size w w' := by
  refine gen fun R hR => ?_
  obtain ⟨ds, seen, snaps, da, dc, sa, sc, na, nc⟩ := h
  obtain ⟨i1, i2⟩ := id
  have hrow := ok.1
  have htx := ok.2.2.2.1
  simp only [HistD.agg, IdD.agg, HistD.dv, HistD.sv, HistD.nv] at hrow htx hl hR ⊢
  have h31 := fun W (hb : Below w.heap.size w W) => c31 (w := W) (.slice sa seen.length sc) (.slice na snaps.length nc) (hrow.keep hb) (by omega)
  have hwl := wit_len ds
  have hmem := (wit_is ds).mem
  have htw : ∀ d ∈ wit ds, TxnOk w d.txn := fun d hd => htx d (hmem d hd)
  have huq : ∀ L, IsWit ds L → L = wit ds := fun L h => h.eq
  generalize hL : wit ds = L at *
  have HTW := Lib.hid htw
  have HUQ := Lib.hid huq
  clear ok hrow htx hmem htw huq
  go_enter Try.func12, Try.ntmps12
  go_wp2_with fail
  refine (h31 _ (below4 _ _ _ _ _)).mono ?_
  rintro e w1 ⟨v, L', rfl, hw, hv, hb1, hgb⟩
  obtain rfl := (HUQ.out L' hw).symm
  have hI := (((VarAt.new1 w (.cells #[.slice da ds.length dc, .slice sa seen.length sc, .slice na snaps.length nc] 26) 39 [.int .i64 i1, .int .i64 i2]).alloc (.cells (encVal zeroVal).toArray 47)).alloc (.cells (encVal zeroVal).toArray 47)).keep hb1 (by simp)
  have hZ := ((VarAt.new2 w (.cells #[.slice da ds.length dc, .slice sa seen.length sc, .slice na snaps.length nc] 26) (.cells #[.int .i64 i1, .int .i64 i2] 39) 47 (encVal zeroVal)).alloc (.cells (encVal zeroVal).toArray 47)).keep hb1 (by simp)
  have hV := (VarAt.new3 w (.cells #[.slice da ds.length dc, .slice sa seen.length sc, .slice na snaps.length nc] 26) (.cells #[.int .i64 i1, .int .i64 i2] 39) (.cells (encVal zeroVal).toArray 47) 47 (encVal zeroVal)).keep hb1 (by simp)
  have hB := (below4 w (.cells #[.slice da ds.length dc, .slice sa seen.length sc, .slice na snaps.length nc] 26) (.cells #[.int .i64 i1, .int .i64 i2] 39) (.cells (encVal zeroVal).toArray 47) (.cells (encVal zeroVal).toArray 47)).trans (hb1.mono (by simp; omega))
  have hgb' : ∀ g, v.ownBlock = some g → w.heap.size + 4 ≤ g := fun g hg => by have := hgb g hg; simp at this; omega
  obtain ⟨va, vc, rfl, hvc, -⟩ := id hv
  have HGB := Lib.hid hgb'
  have hini : AheadRel w L (.slice va L.length vc) ⟨i1, i2⟩ key (.int .i64 0) w1 := ⟨0, by omega, rfl, fun k d hk => by omega, hV, hI, hZ, hv, hB⟩
  have HINI := Lib.hid hini
  clear hini hI hZ hV hB hgb hgb' hv hb1 hw h31
  go_wp2_with fail
  go_loopw [14] (fun i wr => AheadRel w L (.slice va L.length vc) ⟨i1, i2⟩ key i wr) (fun i _ => L.length - (intOf i).toNat)
  case atStart => exact HINI.out
  case round =>
    clear HINI
    obtain ⟨m, hm, rfl, hno, hV, hI, hZ, hv, hB⟩ := hrel
    have HN := Lib.hid hno
    have HB := Lib.hid hB
    have HV := Lib.hid hV
    have HI := Lib.hid hI
    have HZ := Lib.hid hZ
    have HR := Lib.hid hv
    have hi0 := hI.cell (j := 0) rfl
    have hi1 := hI.cell (j := 1) rfl
    have hl3 := hV.lt
    have hl2 := hZ.lt
    have hl1 := hI.lt
    rcases Nat.lt_or_ge m L.length with hlt | hge
    · obtain ⟨b, o, d, rfl, hbl, hd, hc0, hc1, hc2, hc3, hc4, hc5⟩ := hv.doneAt hlt
      have hgb := HGB.out b rfl
      have htd := fun W (hb : Below w.heap.size w W) => (HTW.out d (List.mem_of_getElem? hd)).keep hb
      have hstep := valN_take hd key
      have hHIT := fun h => ahead_hit (key := key) HN.out hd h
      have HSTEP := Lib.hid hstep
      have HHIT := Lib.hid hHIT
      have HD := Lib.hid hd
      have HTD := Lib.hid htd
      obtain ⟨⟨⟨s1, q1⟩, trd, tws, tra, trc, twa, twc⟩, dy, dst⟩ := d
      simp only [TxnD.rv, TxnD.wv] at hc0 hc1 hc2 hc3 hc4 hc5
      have hmI : (m : Int) < (L.length : Int) := by omega
      have heq := eql39 ⟨s1, q1⟩ ⟨i1, i2⟩
      simp only at heq
      generalize hu : valN key (L.take m) = u at *
      have v0 := hV.cell (j := 0) rfl
      have v1 := hV.cell (j := 1) rfl
      have v2 := hV.cell (j := 2) rfl
      clear hno hV hI hv hB hstep hHIT hd htd
      by_cases he : (⟨s1, q1⟩ : IdD) = ⟨i1, i2⟩
      · rw [decide_eq_true he] at heq
        have hq := HHIT.out he
        have z0 := hZ.cell (j := 0) rfl
        have z1 := hZ.cell (j := 1) rfl
        have z2 := hZ.cell (j := 2) rfl
        have f0 := hZ.free 0
        have f1 := hZ.free 1
        have f2 := hZ.free 2
        rw [hq] at hR
        clear he hZ hq hu
        go_wp2_with fail
        refine bodyPost_ret (v := aheadV (some u)) (by simp [results, Try.results12, go_sem, aheadV, hl3, hl2, z0, z1, z2]) rfl (hR _ _ ⟨rfl, ?_⟩)
        exact (((HB.out.setCell (by simp <;> omega) _).setCell (by simp <;> omega) _).setCell (by simp <;> omega) _).alloc (by simp; omega) _
      · rw [decide_eq_false he] at heq
        have HE := Lib.hid he
        clear he hZ
        go_wp2_with fail
        refine (c32 ⟨⟨s1, q1⟩, trd, tws, tra, trc, twa, twc⟩ key u (HTD.out _ (HB.out.alloc (by omega) _))).mono ?_
        rintro e w2 ⟨rfl, hb2⟩
        have hb3 := (below1 wr (.cells (encDone ⟨⟨⟨s1, q1⟩, trd, tws, tra, trc, twa, twc⟩, dy, dst⟩).toArray 50)).trans (hb2.mono (by simp))
        have HV2 := Lib.hid (HV.out.keep hb3 hl3)
        have HI2 := Lib.hid (HI.out.keep hb3 hl1)
        have HZ2 := Lib.hid (HZ.out.keep hb3 hl2)
        have HR2 := Lib.hid (HR.out.keep hb3)
        have HB2 := Lib.hid (HB.out.trans (hb3.mono HB.out.size))
        have hV2 := HV2.out
        have v0 := hV2.cell (j := 0) rfl
        have v1 := hV2.cell (j := 1) rfl
        have v2 := hV2.cell (j := 2) rfl
        have f0 := hV2.free 0
        have f1 := hV2.free 1
        have f2 := hV2.free 2
        have hl4 := hV2.lt
        have hst2 : valN key (L.take (m + 1)) = wrote tws key u := HSTEP.out
        have HST2 := Lib.hid hst2
        clear hst2 HSTEP
        generalize wrote tws key u = u' at *
        clear hb2 hb3 hV2 hc0 hc1 hc2 hc3 hc4 hc5
        go_wp2_with fail
        go_tidy
        refine ⟨⟨m + 1, by omega, rfl, fun k d hk hd => ?_, ?_, ?_, ?_, ?_, ?_⟩, by simp [intOf]; omega⟩
        · rcases Nat.lt_or_ge k m with h1 | h1
          · exact HN.out k d h1 hd
          · obtain rfl : k = m := by omega
            rw [HD.out] at hd; cases hd; exact HE.out
        · rw [HST2.out]
          exact ((HV2.out.set 0 (.int .i64 u'.kind)).set 1 (.int .u64 u'.bits)).set 2 (.string u'.text)
        · exact ((HI2.out.other (by simp) _).other (by simp) _).other (by simp) _
        · exact ((HZ2.out.other (by simp) _).other (by simp) _).other (by simp) _
        · have hne : ∀ j, (Value.slice (some (⟨b, o, none⟩ : Addr)) L.length vc).ownBlock ≠ some (⟨w.heap.size + 3, j, none⟩ : Addr).block := fun j e => by
            simp only [Value.ownBlock, Option.map_some, Option.some.injEq] at e; omega
          exact ((HR2.out.other (hne 0) _).other (hne 1) _).other (hne 2) _
        · exact ((HB2.out.setCell (by simp <;> omega) _).setCell (by simp <;> omega) _).setCell (by simp <;> omega) _
    · obtain rfl : m = L.length := by omega
      have z0 := hZ.cell (j := 0) rfl
      have z1 := hZ.cell (j := 1) rfl
      have z2 := hZ.cell (j := 2) rfl
      have f0 := hZ.free 0
      have f1 := hZ.free 1
      have f2 := hZ.free 2
      rw [ahead_miss hno] at hR
      clear hno hV hI hv hB hZ
      go_wp2_with fail
      refine bodyPost_ret (v := aheadV none) (by simp [results, Try.results12, go_sem, aheadV, zeroVal, hl3, z0, z1, z2]; rfl) rfl (hR _ _ ⟨rfl, ?_⟩)
      exact ((HB.out.setCell (by simp <;> omega) _).setCell (by simp <;> omega) _).setCell (by simp <;> omega) _
def AtRel2 (w : World) (L : List DoneD) (v : Value) (key : ByteArray) (stamp : Int) (i : Value) (wr : World) : Prop :=
  ∃ m : Nat, m ≤ L.length ∧ i = .int .i64 m ∧ VarAt wr (w.heap.size + 2) 47 (encVal (atS key stamp (L.take m))) ∧
    VarAt wr (w.heap.size + 1) 47 (encVal zeroVal) ∧ RowOf encDone 6 wr v L ∧ Below w.heap.size w wr
set_option maxHeartbeats 4000000 in
set_option maxRecDepth 100000 in
theorem c16 {w : World} {h : HistD} (ok : HistOk w h) (hl : h.done.length ≤ 30) (key : ByteArray) (stamp : Int) :
    Calls Try.prog 16 #[h.agg, .string key, .int .u64 stamp] w fun e w' => e = .returned (atS key stamp (wit h.done)).agg ∧ Below w.heap.size w w' := by
  refine gen fun R hR => ?_
  obtain ⟨ds, seen, snaps, da, dc, sa, sc, na, nc⟩ := h
  have hrow := ok.1
  have htx := ok.2.2.2.1
  simp only [HistD.agg, HistD.dv, HistD.sv, HistD.nv] at hrow htx hl hR ⊢
  have h31 := fun W (hb : Below w.heap.size w W) => c31 (w := W) (.slice sa seen.length sc) (.slice na snaps.length nc) (hrow.keep hb) (by omega)
  have hwl := wit_len ds
  have hmem := (wit_is ds).mem
  have htw : ∀ d ∈ wit ds, TxnOk w d.txn := fun d hd => htx d (hmem d hd)
  have huq : ∀ L, IsWit ds L → L = wit ds := fun L h => h.eq
  generalize hL : wit ds = L at *
  have HTW := Lib.hid htw
  have HUQ := Lib.hid huq
  clear ok hrow htx hmem htw huq
  go_enter Try.func16, Try.ntmps16
  go_wp2_with fail
  refine (h31 _ (below3 _ _ _ _)).mono ?_
  rintro e w1 ⟨v, L', rfl, hw, hv, hb1, hgb⟩
  obtain rfl := (HUQ.out L' hw).symm
  have hZ := ((VarAt.new1 w (.cells #[.slice da ds.length dc, .slice sa seen.length sc, .slice na snaps.length nc] 26) 47 (encVal zeroVal)).alloc (.cells (encVal zeroVal).toArray 47)).keep hb1 (by simp)
  have hV := (VarAt.new2 w (.cells #[.slice da ds.length dc, .slice sa seen.length sc, .slice na snaps.length nc] 26) (.cells (encVal zeroVal).toArray 47) 47 (encVal zeroVal)).keep hb1 (by simp)
  have hB := (below3 w (.cells #[.slice da ds.length dc, .slice sa seen.length sc, .slice na snaps.length nc] 26) (.cells (encVal zeroVal).toArray 47) (.cells (encVal zeroVal).toArray 47)).trans (hb1.mono (by simp; omega))
  have hgb' : ∀ g, v.ownBlock = some g → w.heap.size + 3 ≤ g := fun g hg => by have := hgb g hg; simp at this; omega
  obtain ⟨va, vc, rfl, hvc, -⟩ := id hv
  have HGB := Lib.hid hgb'
  have hini : AtRel2 w L (.slice va L.length vc) key stamp (.int .i64 0) w1 := ⟨0, by omega, rfl, hV, hZ, hv, hB⟩
  have HINI := Lib.hid hini
  clear hini hZ hV hB hgb hgb' hv hb1 hw h31
  go_wp2_with fail
  go_loopw [13] (fun i wr => AtRel2 w L (.slice va L.length vc) key stamp i wr) (fun i _ => L.length - (intOf i).toNat)
  case atStart => exact HINI.out
  case round =>
    clear HINI
    obtain ⟨m, hm, rfl, hV, hZ, hv, hB⟩ := hrel
    have HB := Lib.hid hB
    have HV := Lib.hid hV
    have HZ := Lib.hid hZ
    have HR := Lib.hid hv
    have hl2 := hV.lt
    have hl1 := hZ.lt
    rcases Nat.lt_or_ge m L.length with hlt | hge
    · obtain ⟨b, o, d, rfl, hbl, hd, hc0, hc1, hc2, hc3, hc4, hc5⟩ := hv.doneAt hlt
      have hgb := HGB.out b rfl
      have htd := fun W (hb : Below w.heap.size w W) => (HTW.out d (List.mem_of_getElem? hd)).keep hb
      have hstep := atS_take hd key stamp
      have HSTEP := Lib.hid hstep
      have HTD := Lib.hid htd
      obtain ⟨⟨⟨s1, q1⟩, trd, tws, tra, trc, twa, twc⟩, dy, dst⟩ := d
      simp only [TxnD.rv, TxnD.wv] at hc0 hc1 hc2 hc3 hc4 hc5
      have hmI : (m : Int) < (L.length : Int) := by omega
      generalize hu : atS key stamp (L.take m) = u at *
      have v0 := hV.cell (j := 0) rfl
      have v1 := hV.cell (j := 1) rfl
      have v2 := hV.cell (j := 2) rfl
      clear hV hZ hv hB hstep htd hd
      by_cases he : dst ≤ stamp
      · have hst2 : atS key stamp (L.take (m + 1)) = wrote tws key u := by rw [HSTEP.out]; unfold at1; rw [if_pos he]
        have HST2 := Lib.hid hst2
        clear hst2 HSTEP
        have hd1 : decide (dst ≤ stamp) = true := decide_eq_true he
        go_wp2_with fail
        refine (c32 ⟨⟨s1, q1⟩, trd, tws, tra, trc, twa, twc⟩ key u (HTD.out _ (HB.out.alloc (by omega) _))).mono ?_
        rintro e w2 ⟨rfl, hb2⟩
        have hb3 := (below1 wr (.cells (encDone ⟨⟨⟨s1, q1⟩, trd, tws, tra, trc, twa, twc⟩, dy, dst⟩).toArray 50)).trans (hb2.mono (by simp))
        have HV2 := Lib.hid (HV.out.keep hb3 hl2)
        have HZ2 := Lib.hid (HZ.out.keep hb3 hl1)
        have HR2 := Lib.hid (HR.out.keep hb3)
        have HB2 := Lib.hid (HB.out.trans (hb3.mono HB.out.size))
        have hV2 := HV2.out
        have v0 := hV2.cell (j := 0) rfl
        have v1 := hV2.cell (j := 1) rfl
        have v2 := hV2.cell (j := 2) rfl
        have f0 := hV2.free 0
        have f1 := hV2.free 1
        have f2 := hV2.free 2
        have hl4 := hV2.lt
        generalize wrote tws key u = u' at *
        clear hb2 hb3 hV2 hc0 hc1 hc2 hc3 hc4 hc5
        go_wp2_with fail
        go_tidy
        refine ⟨⟨m + 1, by omega, rfl, ?_, ?_, ?_, ?_⟩, by simp [intOf]; omega⟩
        · rw [HST2.out]
          exact ((HV2.out.set 0 (.int .i64 u'.kind)).set 1 (.int .u64 u'.bits)).set 2 (.string u'.text)
        · exact ((HZ2.out.other (by simp) _).other (by simp) _).other (by simp) _
        · have hne : ∀ j, (Value.slice (some (⟨b, o, none⟩ : Addr)) L.length vc).ownBlock ≠ some (⟨w.heap.size + 2, j, none⟩ : Addr).block := fun j e => by
            simp only [Value.ownBlock, Option.map_some, Option.some.injEq] at e; omega
          exact ((HR2.out.other (hne 0) _).other (hne 1) _).other (hne 2) _
        · exact ((HB2.out.setCell (by simp <;> omega) _).setCell (by simp <;> omega) _).setCell (by simp <;> omega) _
      · have hst2 : atS key stamp (L.take (m + 1)) = u := by rw [HSTEP.out]; unfold at1; rw [if_neg he]
        have HST2 := Lib.hid hst2
        have hd1 : decide (dst ≤ stamp) = false := decide_eq_false he
        clear hst2 HSTEP
        go_wp2_with fail
        go_tidy
        refine ⟨⟨m + 1, by omega, rfl, ?_, HZ.out.alloc _, HR.out.keep (below1 _ _), HB.out.alloc HB.out.size _⟩, by simp [intOf]; omega⟩
        rw [HST2.out]; exact HV.out.alloc _
    · obtain rfl : m = L.length := by omega
      rw [List.take_length] at hV
      generalize atS key stamp L = u at *
      have z0 := hZ.cell (j := 0) rfl
      have z1 := hZ.cell (j := 1) rfl
      have z2 := hZ.cell (j := 2) rfl
      have f0 := hZ.free 0
      have f1 := hZ.free 1
      have f2 := hZ.free 2
      have v0 := hV.cell (j := 0) rfl
      have v1 := hV.cell (j := 1) rfl
      have v2 := hV.cell (j := 2) rfl
      clear hV hv hB hZ
      go_wp2_with fail
      refine bodyPost_ret (v := u.agg) (by simp [results, Try.results16, go_sem, hl2, hl1, z0, z1, z2]) rfl (hR _ _ ⟨rfl, ?_⟩)
      exact ((HB.out.setCell (by simp <;> omega) _).setCell (by simp <;> omega) _).setCell (by simp <;> omega) _
end Go.Proofs.Ytmdfilffoomckaa
