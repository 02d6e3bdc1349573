/- The reference: a key's value ahead of a transaction; at a stamp. Conditions: each law's own. -/
import Derived.Test.YtmdfilffoomckaaRWit
namespace Go.Proofs.Ytmdfilffoomckaa
open Go.ChangeShapes Go.WideShapes Go.ChangeAt Go.RowKit

abbrev HistD.agg (h : HistD) : Value := .agg #[h.dv, h.sv, h.nv]
abbrev IdD.agg (i : IdD) : Value := .agg #[.int .i64 i.s, .int .i64 i.q]
def aheadV (o : Option ValD) : Value := .tuple #[(o.getD zeroVal).agg, .bool o.isSome]
theorem VarAt.new1 (w : World) (o : Obj) (T : TypeId) (cs : List Value) : VarAt ((w.alloc o).alloc (.cells cs.toArray T)) (w.heap.size + 1) T cs := by
  have := VarAt.new (w.alloc o) T cs
  rw [World.size_alloc] at this; exact this
theorem VarAt.new2 (w : World) (o o' : Obj) (T : TypeId) (cs : List Value) : VarAt (((w.alloc o).alloc o').alloc (.cells cs.toArray T)) (w.heap.size + 2) T cs := by
  have := VarAt.new ((w.alloc o).alloc o') T cs
  rw [World.size_alloc, World.size_alloc] at this; exact this
theorem below1 (w : World) (o : Obj) : Below w.heap.size w (w.alloc o) := (Below.refl _ _).alloc (Nat.le_refl _) _
theorem below2 (w : World) (o o' : Obj) : Below w.heap.size w ((w.alloc o).alloc o') := (below1 w o).alloc (by simp) _
theorem below3 (w : World) (o o' o'' : Obj) : Below w.heap.size w (((w.alloc o).alloc o').alloc o'') := (below2 w o o').alloc (by simp <;> omega) _
theorem below4 (w : World) (o o' o'' o3 : Obj) : Below w.heap.size w ((((w.alloc o).alloc o').alloc o'').alloc o3) := (below3 w o o' o'').alloc (by simp <;> omega) _
def IdxRel (L : List DoneD) (id : IdD) (w1 : World) (i : Value) (wr : World) : Prop :=
  ∃ m n : Nat, m ≤ L.length ∧ i = .int .i64 m ∧ (∀ (k : Nat) d, k < m → L[k]? = some d → d.txn.id ≠ id) ∧ wr = w1.drewN n
set_option maxHeartbeats 4000000 in
set_option maxRecDepth 100000 in
theorem c13 {w : World} {h : HistD} (ok : HistOk w h) (hl : h.done.length ≤ 30) (id : IdD) (key : ByteArray) :
    Calls Try.prog 13 #[h.agg, id.agg, .string key] w fun e w' => e = .returned (aheadV (ahead id key zeroVal (wit h.done))) ∧ Below w.heap.size w w' := by
  refine gen fun R hR => ?_
  obtain ⟨ds, seen, snaps, da, dc, sa, sc, na, nc⟩ := h
  obtain ⟨i1, i2⟩ := id
  have hrow := ok.1
  have htx := ok.2.2.2.1
  simp only [HistD.agg, IdD.agg, HistD.dv, HistD.sv, HistD.nv] at hrow htx hl hR ⊢
  have h11 := fun W (hb : Below w.heap.size w W) => c11 (w := W) (.slice sa seen.length sc) (.slice na snaps.length nc) (hrow.keep hb) (by omega)
  have hwl := wit_len ds
  have hmem := (wit_is ds).mem
  have htw : ∀ d ∈ wit ds, TxnOk w d.txn := fun d hd => htx d (hmem d hd)
  generalize hL : wit ds = L at *
  have HTW := Lib.hid htw
  clear ok hrow htx hmem htw
  go_enter Try.func13, Try.ntmps13
  go_wp2_with fail
  refine (h11 _ (below3 _ _ _ _)).mono ?_
  rintro e w1 ⟨v, rfl, hv, hb1⟩
  have hI := ((VarAt.new1 w (.cells #[.slice da ds.length dc, .slice sa seen.length sc, .slice na snaps.length nc] 34) 39 [.int .i64 i1, .int .i64 i2]).alloc (.cells (encVal zeroVal).toArray 47)).keep hb1 (by simp)
  have hZ := (VarAt.new2 w (.cells #[.slice da ds.length dc, .slice sa seen.length sc, .slice na snaps.length nc] 34) (.cells #[.int .i64 i1, .int .i64 i2] 39) 47 (encVal zeroVal)).keep hb1 (by simp)
  have hB := (below3 w (.cells #[.slice da ds.length dc, .slice sa seen.length sc, .slice na snaps.length nc] 34) (.cells #[.int .i64 i1, .int .i64 i2] 39) (.cells (encVal zeroVal).toArray 47)).trans (hb1.mono (by simp; omega))
  rw [hL] at hv
  obtain ⟨va, vc, rfl, hvc, -⟩ := id hv
  have hlt1 := hI.lt
  have hlt2 := hZ.lt
  have hi0 := hI.cell (j := 0) rfl
  have hi1 := hI.cell (j := 1) rfl
  have z0 := hZ.cell (j := 0) rfl
  have z1 := hZ.cell (j := 1) rfl
  have z2 := hZ.cell (j := 2) rfl
  have f0 := hZ.free 0
  have f1 := hZ.free 1
  have f2 := hZ.free 2
  have HV := Lib.hid hv
  have HZ := Lib.hid hZ
  have HB := Lib.hid hB
  clear hv hI hZ hB hb1 h11
  go_wp2_with fail
  go_loopw [9] (fun i wr => IdxRel L ⟨i1, i2⟩ w1 i wr) (fun i _ => L.length - (intOf i).toNat)
  case atStart => exact ⟨0, 0, by omega, rfl, fun k d hk => by omega, rfl⟩
  case round =>
    obtain ⟨m, n, hm, rfl, hno, rfl⟩ := hrel
    have HN := Lib.hid hno
    clear hno
    rcases Nat.lt_or_ge m L.length with hlt | hge
    · obtain ⟨b, o, d, rfl, hbl, hd, hc0, hc1, -, -, -, -⟩ := HV.out.doneAt hlt
      obtain ⟨⟨⟨s1, q1⟩, trd, tws, tra, trc, twa, twc⟩, dy, dst⟩ := d
      simp only at hc0 hc1
      have hmI : (m : Int) < (L.length : Int) := by omega
      have heq := eql39 ⟨s1, q1⟩ ⟨i1, i2⟩
      simp only at heq
      have HD := Lib.hid hd
      clear hd
      by_cases he : (⟨s1, q1⟩ : IdD) = ⟨i1, i2⟩
      · rw [decide_eq_true he] at heq
        have HE := Lib.hid he
        clear he
        have h33 := fun W (hb : Below w1.heap.size w1 W) => c33 (w := W) m key (HV.out.keep hb) (by omega) (fun d hd => ((HTW.out d hd).keep HB.out).keep hb)
        go_wp2_with fail
        go_quiet (fail)
        go_wp2_with fail
        refine (h33 _ (below_drewN (Below.refl _ _) _)).mono ?_
        rintro e w2 ⟨rfl, hb2⟩
        have hb3 := (below_drewN (Below.refl w1.heap.size w1) _).trans hb2
        have hZ2 := HZ.out.keep hb3 HZ.out.lt
        have y0 := hZ2.cell (j := 0) rfl
        have y1 := hZ2.cell (j := 1) rfl
        have y2 := hZ2.cell (j := 2) rfl
        have g0 := hZ2.free 0
        have g1 := hZ2.free 1
        have g2 := hZ2.free 2
        have hlt4 := hZ2.lt
        have HB3 := Lib.hid (HB.out.trans (hb3.mono HB.out.size))
        have HQ := Lib.hid (ahead_hit (key := key) HN.out HD.out HE.out)
        generalize valN key (L.take m) = u at *
        clear hb2 hb3 hZ2 z0 z1 z2 f0 f1 f2 h33
        go_wp2_with fail
        rw [HQ.out] at hR
        refine bodyPost_ret (v := aheadV (some u)) (by simp [results, Try.results13, go_sem, aheadV, hlt4, y0, y1, y2]) rfl (hR _ _ ⟨rfl, ?_⟩)
        exact ((HB3.out.setCell (by simp <;> omega) _).setCell (by simp <;> omega) _).setCell (by simp <;> omega) _
      · rw [decide_eq_false he] at heq
        have HE := Lib.hid he
        clear he
        go_wp2
        go_quiet (fail)
        go_wp2
        go_tidy
        refine ⟨⟨m + 1, _, by omega, rfl, fun k d hk hd => ?_, rfl⟩, by simp [intOf]; omega⟩
        rcases Nat.lt_or_ge k m with h1 | h1
        · exact HN.out k d h1 hd
        · obtain rfl : k = m := by omega
          rw [HD.out] at hd; cases hd; exact HE.out
    · obtain rfl : m = L.length := by omega
      go_wp2
      rw [ahead_miss HN.out] at hR
      refine bodyPost_ret (v := aheadV none) (by simp [results, Try.results13, go_sem, aheadV, zeroVal, hlt2, z0, z1, z2]; rfl) rfl (hR _ _ ⟨rfl, ?_⟩)
      exact (((below_drewN HB.out _).setCell (by simp <;> omega) _).setCell (by simp <;> omega) _).setCell (by simp <;> omega) _
def AtRel (L : List DoneD) (stamp : Int) (w1 : World) (i : Value) (wr : World) : Prop :=
  ∃ m : Nat, m ≤ L.length ∧ i = .int .i64 m ∧ (∀ (k : Nat) d, k < m → L[k]? = some d → d.stamp ≤ stamp) ∧ wr = w1
set_option maxHeartbeats 4000000 in
set_option maxRecDepth 100000 in
theorem c17 {w : World} {h : HistD} (ok : HistOk w h) (hl : h.done.length ≤ 30) (key : ByteArray) (stamp : Int) :
    Calls Try.prog 17 #[h.agg, .string key, .int .u64 stamp] w fun e w' => e = .returned (atS key stamp (wit h.done)).agg ∧ Below w.heap.size w w' := by
  refine gen fun R hR => ?_
  obtain ⟨ds, seen, snaps, da, dc, sa, sc, na, nc⟩ := h
  have hrow := ok.1
  have htx := ok.2.2.2.1
  simp only [HistD.agg, HistD.dv, HistD.sv, HistD.nv] at hrow htx hl hR ⊢
  have h11 := fun W (hb : Below w.heap.size w W) => c11 (w := W) (.slice sa seen.length sc) (.slice na snaps.length nc) (hrow.keep hb) (by omega)
  have hwl := wit_len ds
  have hmem := (wit_is ds).mem
  have hpw := (wit_is ds).2
  have htw : ∀ d ∈ wit ds, TxnOk w d.txn := fun d hd => htx d (hmem d hd)
  generalize hL : wit ds = L at *
  have HTW := Lib.hid htw
  have HPW := Lib.hid hpw
  clear ok hrow htx hmem htw hpw
  go_enter Try.func17, Try.ntmps17
  go_wp2_with fail
  refine (h11 _ (below2 _ _ _)).mono ?_
  rintro e w1 ⟨v, rfl, hv, hb1⟩
  have hZ := (VarAt.new1 w (.cells #[.slice da ds.length dc, .slice sa seen.length sc, .slice na snaps.length nc] 34) 47 (encVal zeroVal)).keep hb1 (by simp)
  have hB := (below2 w (.cells #[.slice da ds.length dc, .slice sa seen.length sc, .slice na snaps.length nc] 34) (.cells (encVal zeroVal).toArray 47)).trans (hb1.mono (by simp; omega))
  rw [hL] at hv
  obtain ⟨va, vc, rfl, hvc, -⟩ := id hv
  have HV := Lib.hid hv
  have HZ := Lib.hid hZ
  have HB := Lib.hid hB
  clear hv hZ hB hb1 h11
  go_wp2_with fail
  go_loopw [8] (fun i wr => AtRel L stamp w1 i wr) (fun i _ => L.length - (intOf i).toNat)
  case atStart => exact ⟨0, by omega, rfl, fun k d hk => by omega, rfl⟩
  case round =>
    obtain ⟨m, hm, rfl, hbe, rfl⟩ := hrel
    have HN := Lib.hid hbe
    clear hbe
    have out : (∀ d, L[m]? = some d → ¬ d.stamp ≤ stamp) → Calls Try.prog 33 #[.slice va L.length vc, .int .i64 m, .string key] wr fun e w2 => e = .returned (atS key stamp L).agg ∧ Below w.heap.size w w2 ∧ VarAt w2 (w.heap.size + 1) 47 (encVal zeroVal) := fun ha => by
      refine (c33 m key HV.out hm (fun d hd => (HTW.out d hd).keep HB.out)).mono ?_
      rintro e w2 ⟨rfl, hb2⟩
      exact ⟨by rw [atS_cut HPW.out HN.out ha], HB.out.trans (hb2.mono HB.out.size), HZ.out.keep hb2 HZ.out.lt⟩
    rcases Nat.lt_or_ge m L.length with hlt | hge
    · obtain ⟨b, o, d, rfl, hbl, hd, -, -, -, -, -, hc5⟩ := HV.out.doneAt hlt
      have hmI : (m : Int) < (L.length : Int) := by omega
      by_cases hs : d.stamp ≤ stamp
      · have HD := Lib.hid hd
        clear hd out
        go_wp2
        go_tidy
        refine ⟨⟨m + 1, by omega, rfl, fun k y hk hy => ?_, rfl⟩, by simp [intOf]; omega⟩
        rcases Nat.lt_or_ge k m with h1 | h1
        · exact HN.out k y h1 hy
        · obtain rfl : k = m := by omega
          rw [HD.out] at hy; cases hy; exact hs
      · have hout := out (fun y hy => by rw [hd] at hy; cases hy; exact hs)
        have hsf : decide (d.stamp ≤ stamp) = false := decide_eq_false hs
        clear out hd
        go_wp2_with fail
        refine hout.mono ?_
        rintro e w2 ⟨rfl, hb2, hZ2⟩
        have y0 := hZ2.cell (j := 0) rfl
        have y1 := hZ2.cell (j := 1) rfl
        have y2 := hZ2.cell (j := 2) rfl
        have g0 := hZ2.free 0
        have g1 := hZ2.free 1
        have g2 := hZ2.free 2
        have hlt4 := hZ2.lt
        generalize atS key stamp L = u at *
        have HB2 := Lib.hid hb2
        clear hZ2 hb2
        go_wp2_with fail
        refine bodyPost_ret (v := u.agg) (by simp [results, Try.results17, go_sem, hlt4, y0, y1, y2]) rfl (hR _ _ ⟨rfl, ?_⟩)
        exact ((HB2.out.setCell (by simp <;> omega) _).setCell (by simp <;> omega) _).setCell (by simp <;> omega) _
    · obtain rfl : m = L.length := by omega
      have hout := out (fun y hy => by rw [List.getElem?_eq_none (by omega)] at hy; cases hy)
      clear out
      go_wp2_with fail
      refine hout.mono ?_
      rintro e w2 ⟨rfl, hb2, hZ2⟩
      have y0 := hZ2.cell (j := 0) rfl
      have y1 := hZ2.cell (j := 1) rfl
      have y2 := hZ2.cell (j := 2) rfl
      have g0 := hZ2.free 0
      have g1 := hZ2.free 1
      have g2 := hZ2.free 2
      have hlt4 := hZ2.lt
      generalize atS key stamp L = u at *
      have HB2 := Lib.hid hb2
      clear hZ2 hb2
      go_wp2_with fail
      refine bodyPost_ret (v := u.agg) (by simp [results, Try.results17, go_sem, hlt4, y0, y1, y2]) rfl (hR _ _ ⟨rfl, ?_⟩)
      exact ((HB2.out.setCell (by simp <;> omega) _).setCell (by simp <;> omega) _).setCell (by simp <;> omega) _
end Go.Proofs.Ytmdfilffoomckaa
