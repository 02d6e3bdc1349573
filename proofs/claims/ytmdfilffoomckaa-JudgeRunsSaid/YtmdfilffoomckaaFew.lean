/- Histories that are looked at; lists of ids; awake. Conditions: each law's own. -/
import Derived.Test.YtmdfilffoomckaaPlain
import Derived.Test.YtmdfilffoomckaaSingle
import Derived.Test.YtmdfilffoomckaaIds
namespace Go.Proofs.Ytmdfilffoomckaa
open Go.ChangeShapes Go.WideShapes Go.ChangeAt Go.RowKit

theorem RowOf.rdAt {w : World} {a : Option Addr} {n cap : Nat} {ds : List RdD} (h : RowOf encRd 2 w (.slice a n cap) ds) {i : Nat} (hi : i < ds.length) :
    ∃ b o d, a = some ⟨b, o, none⟩ ∧ b < w.heap.size ∧ ds[i]? = some d ∧ w.cell? ⟨b, o + i * 2, none⟩ = some (.string d.key) ∧ w.cell? ⟨b, o + i * 2 + 1, none⟩ = some (.int .u64 d.ver) := by
  obtain ⟨a', cap', hv, h1, h2, h3⟩ := h
  cases hv
  obtain ⟨b, o, rfl, hlt, hc⟩ := h3 (by omega)
  have hp : ds[i]? = some ds[i] := List.getElem?_eq_getElem hi
  exact ⟨b, o, ds[i], rfl, hlt, hp, hc i 0 _ _ hp rfl, hc i 1 _ _ hp rfl⟩
def SomeB (w : World) (e : Ending) (w' : World) : Prop := ∃ b : Bool, e = .returned (.bool b) ∧ Below w.heap.size w w'
def CntRel2 (n : Nat) (W1 : World) (i : Value) (wr : World) : Prop := ∃ m : Nat, m ≤ n ∧ i = .int .i64 m ∧ wr = W1
set_option maxHeartbeats 4000000 in
set_option maxRecDepth 100000 in
theorem c24 {w : World} (t : TxnD) (h : TxnOk w t) : Calls Try.prog 24 #[t.agg] w (SomeB w) := by
  refine gen (S := SomeB w) fun R hR => ?_
  obtain ⟨⟨i1, i2⟩, rd, ws, ra, rc, wa, wc⟩ := t
  have h1 := h.1
  have h2 := h.2
  simp only [TxnD.agg, TxnD.rv, TxnD.wv] at h1 h2 ⊢
  have l1 := h1.len
  have l2 := h2.len
  unfold maxLen at l1 l2
  have out : ∀ b, R (.returned (.bool b)) (w.alloc (.cells #[.int .i64 i1, .int .i64 i2, .slice ra rd.length rc, .slice wa ws.length wc] 43)) := fun b => hR _ _ ⟨b, rfl, below1 _ _⟩
  have H1 := Lib.hid h1
  have H2 := Lib.hid h2
  have OUT := Lib.hid out
  clear h h1 h2 hR out
  by_cases g1 : (12 : Int) < (rd.length : Int)
  · go_enter Try.func24, Try.ntmps24
    go_wp2
    go_tidy
    exact OUT.out _
  by_cases g2 : (12 : Int) < (ws.length : Int)
  · go_enter Try.func24, Try.ntmps24
    go_wp2
    go_tidy
    exact OUT.out _
  go_enter Try.func24, Try.ntmps24
  go_wp2
  generalize hW : (w.alloc (.cells #[.int .i64 i1, .int .i64 i2, .slice ra rd.length rc, .slice wa ws.length wc] 43)) = W1 at *
  have hV : VarAt W1 w.heap.size 43 [.int .i64 i1, .int .i64 i2, .slice ra rd.length rc, .slice wa ws.length wc] := by rw [← hW]; exact VarAt.new w 43 _
  have hB : Below w.heap.size w W1 := by rw [← hW]; exact below1 _ _
  have c2 := hV.cell (j := 2) rfl
  have c3 := hV.cell (j := 3) rfl
  have hl := hV.lt
  have K1 := Lib.hid (H1.out.keep hB)
  have K2 := Lib.hid (H2.out.keep hB)
  clear hW hV hB
  go_loop [3] (fun i => ∃ m : Nat, m ≤ rd.length ∧ i = .int .i64 m) (fun i => rd.length - (intOf i).toNat)
  case atStart => exact ⟨0, by omega, rfl⟩
  case round =>
    obtain ⟨m, hm, rfl⟩ := hrel
    rcases Nat.lt_or_ge m rd.length with hlt | hge
    · obtain ⟨b, o, x, rfl, hbl, -, hc0, hc1⟩ := K1.out.rdAt hlt
      have hmI : (m : Int) < (rd.length : Int) := by omega
      go_wp2
      · exact OUT.out _
      · go_tidy
        exact ⟨⟨m + 1, by omega, rfl⟩, by simp [intOf]; omega⟩
    · obtain rfl : m = rd.length := by omega
      go_wp2
      go_loop [4] (fun i => ∃ m : Nat, m ≤ ws.length ∧ i = .int .i64 m) (fun i => ws.length - (intOf i).toNat)
      case atStart => exact ⟨0, by omega, rfl⟩
      case round =>
        obtain ⟨m, hm2, rfl⟩ := hrel
        rcases Nat.lt_or_ge m ws.length with hlt | hge
        · obtain ⟨b, o, x, rfl, hbl, -, hc0, hc1, hc2, hc3⟩ := K2.out.wrAt hlt
          have hmI : (m : Int) < (ws.length : Int) := by omega
          go_wp2
          all_goals
            go_tidy
            first
              | exact OUT.out _
              | exact ⟨⟨m + 1, by omega, rfl⟩, by simp [intOf]; omega⟩
        · obtain rfl : m = ws.length := by omega
          go_wp2
          go_tidy
          exact OUT.out _
def DoneRel (n : Nat) (W1 : World) (i : Value) (wr : World) : Prop := ∃ m : Nat, m ≤ n ∧ i = .int .i64 m ∧ Below W1.heap.size W1 wr
set_option maxHeartbeats 8000000 in
set_option maxRecDepth 100000 in
theorem c28 {w : World} {h : HistD} (ok : HistOk w h) (h1 : h.done.length ≤ 30) (h2 : h.seen.length ≤ 30) (h3 : h.snaps.length ≤ 10) : Calls Try.prog 28 #[h.agg] w (SomeB w) := by
  refine gen (S := SomeB w) fun R hR => ?_
  obtain ⟨ds, seen, snaps, da, dc, sa, sc, na, nc⟩ := h
  have q1 := ok.1
  have q3 := ok.2.2.1
  have htx := ok.2.2.2.1
  simp only [HistD.agg, HistD.dv, HistD.sv, HistD.nv] at q1 q3 h1 h2 h3 htx ⊢
  have out : ∀ b W, Below w.heap.size w W → R (.returned (.bool b)) W := fun b W hb => hR _ _ ⟨b, rfl, hb⟩
  have Q1 := Lib.hid q1
  have Q3 := Lib.hid q3
  have HTX := Lib.hid htx
  have OUT := Lib.hid out
  clear ok q1 q3 htx hR out
  have g1 : ¬ ((30 : Int) < (ds.length : Int)) := by omega
  have g2 : ¬ ((30 : Int) < (seen.length : Int)) := by omega
  have g3 : ¬ ((10 : Int) < (snaps.length : Int)) := by omega
  go_enter Try.func28, Try.ntmps28
  go_wp2
  generalize hW : (w.alloc (.cells #[.slice da ds.length dc, .slice sa seen.length sc, .slice na snaps.length nc] 34)) = W1 at *
  have hV : VarAt W1 w.heap.size 34 [.slice da ds.length dc, .slice sa seen.length sc, .slice na snaps.length nc] := by rw [← hW]; exact VarAt.new w 34 _
  have hB : Below w.heap.size w W1 := by rw [← hW]; exact below1 _ _
  have HV := Lib.hid hV
  have HB := Lib.hid hB
  clear hW hV hB
  go_loopw [3] (fun i wr => DoneRel ds.length W1 i wr) (fun i _ => ds.length - (intOf i).toNat)
  case atStart => exact ⟨0, by omega, rfl, Below.refl _ _⟩
  case round =>
    obtain ⟨m, hm, rfl, hb⟩ := hrel
    have hVr := HV.out.keep hb HV.out.lt
    have c0 := hVr.cell (j := 0) rfl
    have c2 := hVr.cell (j := 2) rfl
    have hl := hVr.lt
    have hBB := HB.out.trans (hb.mono HB.out.size)
    have HBB := Lib.hid hBB
    have HB1 := Lib.hid hb
    rcases Nat.lt_or_ge m ds.length with hlt | hge
    · obtain ⟨b, o, x, rfl, hbl, hx, hc0, hc1, hc2, hc3, -, -⟩ := Q1.out.doneAt hlt
      rw [← hBB.cell (p := ⟨b, o + m * 6, none⟩) hbl] at hc0
      rw [← hBB.cell (p := ⟨b, o + m * 6 + 1, none⟩) hbl] at hc1
      rw [← hBB.cell (p := ⟨b, o + m * 6 + 2, none⟩) hbl] at hc2
      rw [← hBB.cell (p := ⟨b, o + m * 6 + 3, none⟩) hbl] at hc3
      have hmI : (m : Int) < (ds.length : Int) := by omega
      have h24 := c24 x.txn ((HTX.out x (List.mem_of_getElem? hx)).keep hBB)
      obtain ⟨⟨⟨i1, i2⟩, rd, ws, ra, rc, wa, wc⟩, y, st⟩ := x
      simp only [TxnD.rv, TxnD.wv, TxnD.agg] at hc0 hc1 hc2 hc3 h24
      clear hVr hBB hb hx
      go_wp2_with (first
        | (go_at_call 24; refine h24.mono ?_; rintro e w2 ⟨bb, rfl, hb2⟩; cases bb)
        | fail)
      · go_tidy
        exact OUT.out _ _ (HBB.out.trans (hb2.mono HBB.out.size))
      · go_wp2
        go_tidy
        exact ⟨⟨m + 1, by omega, rfl, HB1.out.trans (hb2.mono HB1.out.size)⟩, by simp [intOf]; omega⟩
    · obtain rfl : m = ds.length := by omega
      clear hVr hBB hb
      go_wp2
      go_loop [4] (fun i => ∃ m : Nat, m ≤ snaps.length ∧ i = .int .i64 m) (fun i => snaps.length - (intOf i).toNat)
      case atStart => exact ⟨0, by omega, rfl⟩
      case round =>
        obtain ⟨m, hm2, rfl⟩ := hrel
        rcases Nat.lt_or_ge m snaps.length with hlt | hge
        · obtain ⟨b, o, x, rfl, hbl, -, hc0, hc1, hc2, hc3, hc4⟩ := Q3.out.snapAt hlt
          rw [← HBB.out.cell (p := ⟨b, o + m * 5 + 3, none⟩) hbl] at hc3
          rw [← HBB.out.cell (p := ⟨b, o + m * 5 + 4, none⟩) hbl] at hc4
          have hmI : (m : Int) < (snaps.length : Int) := by omega
          go_wp2
          all_goals
            go_tidy
            first
              | exact OUT.out _ _ HBB.out
              | exact ⟨⟨m + 1, by omega, rfl⟩, by simp [intOf]; omega⟩
        · obtain rfl : m = snaps.length := by omega
          go_wp2
          go_tidy
          exact OUT.out _ _ HBB.out
def FewEnd (h : HistD) (w : World) (e : Ending) (w' : World) : Prop := ∃ b : Bool, e = .returned (.bool b) ∧ (b = true → h.done.length ≤ 30 ∧ h.seen.length ≤ 30 ∧ h.snaps.length ≤ 10) ∧ Below w.heap.size w w'
set_option maxHeartbeats 4000000 in
theorem c9 {w : World} {h : HistD} (ok : HistOk w h) : Calls Try.prog 9 #[h.agg] w (FewEnd h w) := by
  refine gen (S := FewEnd h w) fun R hR => ?_
  have h10 := fun W (hb : Below w.heap.size w W) => c10 (ok.keep hb)
  obtain ⟨ds, seen, snaps, da, dc, sa, sc, na, nc⟩ := h
  simp only [HistD.agg, HistD.dv, HistD.sv, HistD.nv] at h10 ⊢
  have no : ∀ W, Below w.heap.size w W → R (.returned (.bool false)) W := fun W hb => hR _ _ ⟨false, rfl, by simp, hb⟩
  have NO := Lib.hid no
  clear no ok
  by_cases g1 : (ds.length : Int) ≤ 30
  · by_cases g2 : (seen.length : Int) ≤ 30
    · by_cases g3 : (snaps.length : Int) ≤ 10
      · have h10' := h10 (w.alloc (.cells #[.slice da ds.length dc, .slice sa seen.length sc, .slice na snaps.length nc] 26)) (below1 _ _) (by omega) (by omega) (by omega)
        have fin : ∀ b W, Below w.heap.size w W → R (.returned (.bool b)) W := fun b W hb => hR _ _ ⟨b, rfl, fun _ => ⟨by simp only; omega, by simp only; omega, by simp only; omega⟩, hb⟩
        have FIN := Lib.hid fin
        clear fin hR h10
        go_enter Try.func9, Try.ntmps9
        go_wp2_with (first
          | (go_at_call 10
             refine h10'.mono ?_
             rintro e w1 ⟨h', rfl, e1, e2, e3, hok, hb1⟩
             simp only at e1 e2 e3
             have h28 := c28 hok (by rw [e1]; omega) (by rw [e2]; omega) (by rw [e3]; omega)
             clear e1 e2 e3 hok)
          | (go_at_call 28
             refine h28.mono ?_
             rintro e w2 ⟨bb, rfl, hb2⟩)
          | fail)
        go_tidy
        exact FIN.out _ _ (((below1 _ _).trans (hb1.mono (by simp))).trans (hb2.mono (by have := hb1.size; simp at this; omega)))
      · have d3 : decide ((snaps.length : Int) ≤ 10) = false := decide_eq_false g3
        clear h10 hR
        go_enter Try.func9, Try.ntmps9
        go_wp2
        go_tidy
        exact NO.out _ (below1 _ _)
    · have d2 : decide ((seen.length : Int) ≤ 30) = false := decide_eq_false g2
      clear h10 hR
      go_enter Try.func9, Try.ntmps9
      go_wp2
      go_tidy
      exact NO.out _ (below1 _ _)
  · have d1 : decide ((ds.length : Int) ≤ 30) = false := decide_eq_false g1
    clear h10 hR
    go_enter Try.func9, Try.ntmps9
    go_wp2
    go_tidy
    exact NO.out _ (below1 _ _)
theorem RowOf.idAt {w : World} {a : Option Addr} {n cap : Nat} {ds : List IdD} (h : RowOf encId 2 w (.slice a n cap) ds) {i : Nat} (hi : i < ds.length) :
    ∃ b o d, a = some ⟨b, o, none⟩ ∧ b < w.heap.size ∧ ds[i]? = some d ∧ w.cell? ⟨b, o + i * 2, none⟩ = some (.int .i64 d.s) ∧ w.cell? ⟨b, o + i * 2 + 1, none⟩ = some (.int .i64 d.q) := by
  obtain ⟨a', cap', hv, h1, h2, h3⟩ := h
  cases hv
  obtain ⟨b, o, rfl, hlt, hc⟩ := h3 (by omega)
  have hp : ds[i]? = some ds[i] := List.getElem?_eq_getElem hi
  exact ⟨b, o, ds[i], rfl, hlt, hp, hc i 0 _ _ hp rfl, hc i 1 _ _ hp rfl⟩
def IdsEq (la lb : List IdD) (w : World) (i : Value) (wr : World) : Prop := ∃ m n : Nat, m ≤ la.length ∧ i = .int .i64 m ∧ (∀ (k : Nat), k < m → la[k]? = lb[k]?) ∧ wr = w.drewN n
set_option maxHeartbeats 4000000 in
set_option maxRecDepth 100000 in
theorem c14 {w : World} {va vb : Value} {la lb : List IdD} (ha : RowOf encId 2 w va la) (hb : RowOf encId 2 w vb lb) : Calls Try.prog 14 #[va, vb] w (TellEnd (la = lb) w) := by
  refine gen (S := TellEnd (la = lb) w) fun R hR => ?_
  have l1 := ha.len
  have l2 := hb.len
  unfold maxLen at l1 l2
  obtain ⟨aa, ac, rfl, -⟩ := id ha
  obtain ⟨ba, bc, rfl, -⟩ := id hb
  have HA := Lib.hid ha
  have HB := Lib.hid hb
  clear ha hb
  by_cases hl : la.length = lb.length
  · have hne : ((la.length : Int) != (lb.length : Int)) = false := by simp [hl]
    have HL := Lib.hid hl
    clear hl
    go_enter Try.func14, Try.ntmps14
    go_wp2
    go_loopw [5] (fun i wr => IdsEq la lb w i wr) (fun i _ => la.length - (intOf i).toNat)
    case atStart => exact ⟨0, 0, by omega, rfl, fun k hk => by omega, rfl⟩
    case round =>
      obtain ⟨m, n, hm, rfl, hno, rfl⟩ := hrel
      have HN := Lib.hid hno
      clear hno
      rcases Nat.lt_or_ge m la.length with hlt | hge
      · obtain ⟨b1, o1, x, rfl, hbl1, hx, hx0, hx1⟩ := HA.out.idAt hlt
        obtain ⟨b2, o2, y, rfl, hbl2, hy, hy0, hy1⟩ := HB.out.idAt (i := m) (by have := HL.out; omega)
        obtain ⟨x1, x2⟩ := x
        obtain ⟨y1, y2⟩ := y
        simp only at hx0 hx1 hy0 hy1
        have hmI : (m : Int) < (la.length : Int) := by omega
        have hmJ : (m : Int) < (lb.length : Int) := by have := HL.out; omega
        have heq := neq39 ⟨x1, x2⟩ ⟨y1, y2⟩
        simp only at heq
        have HX := Lib.hid hx
        have HY := Lib.hid hy
        clear hx hy
        by_cases he : (⟨x1, x2⟩ : IdD) = ⟨y1, y2⟩
        · rw [decide_eq_true he] at heq
          simp only [Bool.not_true] at heq
          have HE := Lib.hid he
          clear he
          go_wp2
          go_quiet (fail)
          go_wp2
          go_tidy
          refine ⟨⟨m + 1, _, by omega, rfl, fun k hk => ?_, rfl⟩, by simp [intOf]; omega⟩
          rcases Nat.lt_or_ge k m with h1 | h1
          · exact HN.out k h1
          · obtain rfl : k = m := by omega
            rw [HX.out, HY.out, HE.out]
        · rw [decide_eq_false he] at heq
          simp only [Bool.not_false] at heq
          have HE := Lib.hid he
          clear he
          go_wp2
          go_quiet (fail)
          go_wp2
          go_tidy
          refine TellEnd.no (fun h => ?_) (below_drewN (below_drewN (Below.refl _ _) _) _)
          have h1 := HX.out
          rw [h, HY.out] at h1
          cases h1
          exact HE.out rfl
      · obtain rfl : m = la.length := by omega
        have heq : la = lb := List.ext_getElem? fun k => by
          rcases Nat.lt_or_ge k la.length with h1 | h1
          · exact HN.out k h1
          · rw [List.getElem?_eq_none h1, List.getElem?_eq_none (by have := HL.out; omega)]
        have HE := Lib.hid heq
        clear heq
        go_wp2
        go_tidy
        exact TellEnd.yes HE.out (below_drewN (Below.refl _ _) _)
  · have hne : ((la.length : Int) != (lb.length : Int)) = true := by simp; omega
    have HL := Lib.hid hl
    clear hl
    go_enter Try.func14, Try.ntmps14
    go_wp2
    go_tidy
    exact TellEnd.no (fun h => HL.out (by rw [h])) (Below.refl _ _)
def d0 : DoneD := ⟨⟨⟨1, 1⟩, [], [], none, 0, none, 0⟩, true, 0⟩
theorem wit_d0 : (wit [d0]).length = 1 := by
  have h := (wit_is [d0]).1.length_eq
  rw [h]; rfl
set_option maxHeartbeats 4000000 in
theorem c8 (w : World) : Calls Try.prog 8 #[] w fun e w' => e = .returned (.bool true) ∧ Below w.heap.size w w' := by
  refine gen fun R hR => ?_
  have hrow : RowOf encDone 6 (w.alloc (.cells (encDone d0).toArray 50)) (.slice (some ⟨w.heap.size, 0, none⟩) 1 1) [d0] := by
    refine ⟨_, 1, rfl, by simp, by simp [maxLen], fun _ => ⟨w.heap.size, 0, rfl, by simp, fun i j x u hx hu => ?_⟩⟩
    obtain rfl : i = 0 := by have := (List.getElem?_eq_some_iff.1 hx).1; simp at this; omega
    simp at hx; subst hx
    rw [Nat.zero_mul, Nat.zero_add]
    exact (VarAt.new w 50 (encDone d0)).cell hu
  have ok : ∀ W, Below (w.alloc (.cells (encDone d0).toArray 50)).heap.size (w.alloc (.cells (encDone d0).toArray 50)) W → HistOk W ⟨[d0], [], [], some ⟨w.heap.size, 0, none⟩, 1, none, 0, none, 0⟩ := fun W hb =>
    ⟨hrow.keep hb, RowOf.nil _ _ _, RowOf.nil _ _ _, fun d hd => by simp at hd; subst hd; exact ⟨RowOf.nil _ _ _, RowOf.nil _ _ _⟩, fun x hx => by cases hx⟩
  have hs : Single [d0] := List.pairwise_singleton _ _
  have h18 := fun W hb => c18 (ok W hb)
  have h15 := fun W hb => c15 (.slice none 0 0) (.slice none 0 0) (ok W hb).1 (by simp)
  simp only [HistD.agg, HistD.dv, HistD.sv, HistD.nv, List.length_singleton, List.length_nil] at h18 h15
  have hwl : (idsOf (wit [d0])).length = 1 := by unfold idsOf; rw [List.length_map, wit_d0]
  have HS := Lib.hid hs
  clear hs hrow ok
  go_enter Try.func8, Try.ntmps8
  go_wp2_with (first
    | (go_at_call 18
       refine (h18 _ (below1 _ _)).mono ?_
       rintro e w1 ⟨b, rfl, hb, hb1⟩
       obtain rfl : b = true := hb.2 HS.out
       have hV := (VarAt.new1 w (.cells (encDone d0).toArray 50) 26 [.slice (some ⟨w.heap.size, 0, none⟩) 1 1, .slice none 0 0, .slice none 0 0]).keep hb1 (by simp)
       have v0 := hV.cell (j := 0) rfl
       have v1 := hV.cell (j := 1) rfl
       have v2 := hV.cell (j := 2) rfl
       have vl := hV.lt
       have h15' := h15 w1 ((below1 _ _).trans (hb1.mono (by simp)))
       have HB1 := Lib.hid ((below2 w (.cells (encDone d0).toArray 50) (.cells #[.slice (some ⟨w.heap.size, 0, none⟩) 1 1, .slice none 0 0, .slice none 0 0] 26)).trans (hb1.mono (by simp; omega)))
       clear hV hb hb1 h18 h15)
    | (go_at_call 15
       refine h15'.mono ?_
       rintro e w2 ⟨v, rfl, hr, hb2⟩
       obtain ⟨va, vc, rfl, -⟩ := id hr
       rw [hwl])
    | fail)
  go_tidy
  exact ⟨rfl, HB1.out.trans (hb2.mono HB1.out.size)⟩
end Go.Proofs.Ytmdfilffoomckaa
