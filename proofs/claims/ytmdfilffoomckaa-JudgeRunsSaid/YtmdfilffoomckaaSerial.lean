/- Serial. Conditions: each law's own. -/
import Derived.Test.YtmdfilffoomckaaAhead
namespace Go.Proofs.Ytmdfilffoomckaa
open Go.ChangeShapes Go.WideShapes Go.ChangeAt Go.RowKit

abbrev SeenD.agg (x : SeenD) : Value := .agg #[.int .i64 x.id.s, .int .i64 x.id.q, .string x.key, .int .i64 x.val.kind, .int .u64 x.val.bits, .string x.val.text]
def BadEnd (P : Prop) (w : World) (e : Ending) (w' : World) : Prop := ∃ b : Bool, e = .returned (.bool b) ∧ (b = false ↔ P) ∧ Below w.heap.size w w'
set_option maxHeartbeats 4000000 in
set_option maxRecDepth 100000 in
theorem c35 {w : World} {h : HistD} (ok : HistOk w h) (hl : h.done.length ≤ 30) (p : Nat) (hp : VarAt w p 26 [h.dv, h.sv, h.nv]) (x : SeenD) :
    Calls Try.prog 35 #[x.agg, .pointer (some ⟨p, 0, none⟩)] w (BadEnd (seenOk h.done x) w) := by
  refine gen (S := BadEnd (seenOk h.done x) w) fun R hR => ?_
  have h12 := fun W (hb : Below w.heap.size w W) => c12 (ok.keep hb) hl x.id x.key
  have hso : seenOk h.done x ↔ ∀ u, ahead x.id x.key zeroVal (wit h.done) = some u → u = x.val := Iff.rfl
  generalize ahead x.id x.key zeroVal (wit h.done) = ov at h12 hso
  have HSO := Lib.hid hso
  obtain ⟨ds, seen, snaps, da, dc, sa, sc, na, nc⟩ := h
  obtain ⟨⟨s1, q1⟩, key, v⟩ := x
  simp only [HistD.agg, IdD.agg, HistD.dv, HistD.sv, HistD.nv, aheadV] at hR h12 hp ⊢
  have p0 := hp.cell (j := 0) rfl
  have p1 := hp.cell (j := 1) rfl
  have p2 := hp.cell (j := 2) rfl
  have hpl := hp.lt
  generalize hu : ov.getD zeroVal = u at h12
  generalize hob : ov.isSome = ob at h12
  have HU := Lib.hid hu
  have HOB := Lib.hid hob
  clear hu hob hso ok hp
  have hne := neq47 u v
  simp only [ValD.agg] at hne
  have good : seenOk ds ⟨⟨s1, q1⟩, key, v⟩ → ∀ W, Below w.heap.size w W → R (.returned (.bool false)) W := fun h1 W h2 => hR _ _ ⟨false, rfl, by simp [h1], h2⟩
  have bad : ¬ seenOk ds ⟨⟨s1, q1⟩, key, v⟩ → ∀ W, Below w.heap.size w W → R (.returned (.bool true)) W := fun h1 W h2 => hR _ _ ⟨true, rfl, by simp [h1], h2⟩
  have HG := Lib.hid good
  have HBD := Lib.hid bad
  clear good bad hR
  cases ob with
  | false =>
    clear hne
    go_enter Try.func35, Try.ntmps35
    go_wp2_with (first
      | (go_at_call 12; (refine (h12 _ (below1 _ _)).mono ?_); rintro e w1 ⟨rfl, hb1⟩
         have HB1 := Lib.hid ((below1 w (.cells #[.int .i64 s1, .int .i64 q1, .string key, .int .i64 v.kind, .int .u64 v.bits, .string v.text] 60)).trans (hb1.mono (by simp)))
         clear hb1)
      | fail)
    go_tidy
    refine HG.out (HSO.out.2 fun x hx => ?_) _ (HB1.out.alloc HB1.out.size _)
    rw [hx] at HOB; exact absurd HOB.out (by simp)
  | true =>
    by_cases huv : u = v
    · rw [decide_eq_true huv] at hne
      simp only [Bool.not_true] at hne
      have HUV := Lib.hid huv
      clear huv
      go_enter Try.func35, Try.ntmps35
      go_wp2_with (first
        | (go_at_call 12; (refine (h12 _ (below1 _ _)).mono ?_); rintro e w1 ⟨rfl, hb1⟩
           have HB1 := Lib.hid ((below1 w (.cells #[.int .i64 s1, .int .i64 q1, .string key, .int .i64 v.kind, .int .u64 v.bits, .string v.text] 60)).trans (hb1.mono (by simp)))
           have hX := (VarAt.new w 60 [.int .i64 s1, .int .i64 q1, .string key, .int .i64 v.kind, .int .u64 v.bits, .string v.text]).keep hb1 (by simp)
           have x3 := hX.cell (j := 3) rfl
           have x4 := hX.cell (j := 4) rfl
           have x5 := hX.cell (j := 5) rfl
           have hxl := hX.lt
           clear hb1 hX)
        | fail)
      go_tidy
      refine HG.out (HSO.out.2 fun x hx => ?_) _ (HB1.out.alloc HB1.out.size _)
      have := HU.out; rw [hx] at this; exact this.trans HUV.out
    · rw [decide_eq_false huv] at hne
      simp only [Bool.not_false] at hne
      have HUV := Lib.hid huv
      clear huv
      go_enter Try.func35, Try.ntmps35
      go_wp2_with (first
        | (go_at_call 12; (refine (h12 _ (below1 _ _)).mono ?_); rintro e w1 ⟨rfl, hb1⟩
           have HB1 := Lib.hid ((below1 w (.cells #[.int .i64 s1, .int .i64 q1, .string key, .int .i64 v.kind, .int .u64 v.bits, .string v.text] 60)).trans (hb1.mono (by simp)))
           have hX := (VarAt.new w 60 [.int .i64 s1, .int .i64 q1, .string key, .int .i64 v.kind, .int .u64 v.bits, .string v.text]).keep hb1 (by simp)
           have x3 := hX.cell (j := 3) rfl
           have x4 := hX.cell (j := 4) rfl
           have x5 := hX.cell (j := 5) rfl
           have hxl := hX.lt
           clear hb1 hX)
        | fail)
      go_tidy
      refine HBD.out (fun hall => ?_) _ (HB1.out.alloc HB1.out.size _)
      have h1 := HSO.out.1 hall
      cases hov : ov with
      | none => have := HOB.out; rw [hov] at this; cases this
      | some x =>
        have := HU.out; rw [hov] at this
        exact HUV.out (this ▸ h1 x hov)
def FindRel (ds : List DoneD) (l : List SeenD) (w : World) (i : Value) (wr : World) : Prop := ∃ m : Nat, m ≤ l.length ∧ i = .int .i64 m ∧ (∀ (k : Nat) s, k < m → l[k]? = some s → seenOk ds s) ∧ Below w.heap.size w wr
def FindEnd (P : Prop) (w : World) (e : Ending) (w' : World) : Prop := ∃ n : Int, e = .returned (.int .i64 n) ∧ (n = -1 ↔ P) ∧ (P ∨ 0 ≤ n) ∧ Below w.heap.size w w'
set_option maxHeartbeats 4000000 in
set_option maxRecDepth 100000 in
theorem c43 {w : World} {h : HistD} (ok : HistOk w h) (hl : h.done.length ≤ 30) (p : Nat) (hp : VarAt w p 26 [h.dv, h.sv, h.nv]) :
    Calls Try.prog 43 #[h.sv, .func (.func 35) #[] #[.pointer (some ⟨p, 0, none⟩)]] w (FindEnd (Serial h.done h.seen) w) := by
  refine gen (S := FindEnd (Serial h.done h.seen) w) fun R hR => ?_
  have h35 := fun W (hb : Below w.heap.size w W) x => c35 (ok.keep hb) hl p (hp.keep hb hp.lt) x
  have hrow := ok.2.1
  have hln : h.seen.length ≤ maxLen := hrow.len
  unfold maxLen at hln
  obtain ⟨ds, seen, snaps, da, dc, sa, sc, na, nc⟩ := h
  simp only [HistD.sv] at hrow hR h35 hln ⊢
  have HROW := Lib.hid hrow
  have H35 := Lib.hid h35
  have eg : ∀ args w, (callFunc 35 args).run Try.prog w = .ok (.enter 35 args) w := enters_of Try.func35 (by kernel_rfl) rfl
  clear ok hp hrow h35
  go_enter Try.func43, Try.ntmps43
  go_wp2
  go_loopw [8] (fun i wr => FindRel ds seen w i wr) (fun i _ => seen.length - (intOf i).toNat)
  case atStart => exact ⟨0, by omega, rfl, fun k d hk => by omega, Below.refl _ _⟩
  case round =>
    obtain ⟨m, hm, rfl, hno, hb⟩ := hrel
    have HN := Lib.hid hno
    have HB := Lib.hid hb
    rcases Nat.lt_or_ge m seen.length with hlt | hge
    · obtain ⟨b, o, x, rfl, hbl, hx, hc0, hc1, hc2, hc3, hc4, hc5⟩ := HROW.out.seenAt hlt
      rw [← hb.cell (p := ⟨b, o + m * 6, none⟩) hbl] at hc0
      rw [← hb.cell (p := ⟨b, o + m * 6 + 1, none⟩) hbl] at hc1
      rw [← hb.cell (p := ⟨b, o + m * 6 + 2, none⟩) hbl] at hc2
      rw [← hb.cell (p := ⟨b, o + m * 6 + 3, none⟩) hbl] at hc3
      rw [← hb.cell (p := ⟨b, o + m * 6 + 4, none⟩) hbl] at hc4
      rw [← hb.cell (p := ⟨b, o + m * 6 + 5, none⟩) hbl] at hc5
      have hmI : (m : Int) < (seen.length : Int) := by omega
      have HX := Lib.hid hx
      clear hno hb hx
      go_wp2_with fail
      refine (H35.out wr HB.out x).mono ?_
      rintro e w2 ⟨bb, rfl, hbb, hb2⟩
      have HBB := Lib.hid hbb
      have HB2 := Lib.hid (HB.out.trans (hb2.mono HB.out.size))
      clear hbb hb2
      cases bb with
      | false =>
        go_wp2_with fail
        go_tidy
        refine ⟨⟨m + 1, by omega, rfl, fun k s hk hs => ?_, HB2.out⟩, by simp [intOf]; omega⟩
        rcases Nat.lt_or_ge k m with h1 | h1
        · exact HN.out k s h1 hs
        · obtain rfl : k = m := by omega
          rw [HX.out] at hs; cases hs; exact HBB.out.1 (by trivial)
      | true =>
        go_wp2_with fail
        go_tidy
        have hnS : ¬ Serial ds seen := fun hall => by
          have := HBB.out.2 (hall x (List.mem_of_getElem? HX.out))
          cases this
        exact ⟨m, rfl, ⟨fun h => by omega, fun h => absurd h hnS⟩, .inr (by omega), HB2.out⟩
    · obtain rfl : m = seen.length := by omega
      have HS := Lib.hid (serial_all hno)
      clear hno hb
      go_wp2
      go_tidy
      exact ⟨-1, rfl, by simp [HS.out], .inl HS.out, HB.out⟩
theorem c34 {w : World} {h : HistD} (ok : HistOk w h) (hl : h.done.length ≤ 30) (p : Nat) (hp : VarAt w p 26 [h.dv, h.sv, h.nv]) :
    Calls Try.prog 34 #[h.sv, .func (.func 35) #[] #[.pointer (some ⟨p, 0, none⟩)]] w (BadEnd (Serial h.done h.seen) w) := by
  refine gen (S := BadEnd (Serial h.done h.seen) w) fun R hR => ?_
  have h43 := c43 ok hl p hp
  clear ok hp
  go_enter Try.func34, Try.ntmps34
  go_wp2_with (first
    | (go_at_call 43; refine h43.mono ?_; rintro e w1 ⟨n, rfl, h1, h2, hb1⟩)
    | fail)
  go_tidy
  refine ⟨decide (0 ≤ n), rfl, ?_, hb1⟩
  rw [decide_eq_false_iff_not, ← h1]
  constructor
  · intro h3
    rcases h2 with h4 | h4
    · exact h1.2 h4
    · omega
  · intro h3; omega
theorem c20 {w : World} {h : HistD} (ok : HistOk w h) (hl : h.done.length ≤ 30) : Calls Try.prog 20 #[h.agg] w (TellEnd (Serial h.done h.seen) w) := by
  refine gen (S := TellEnd (Serial h.done h.seen) w) fun R hR => ?_
  have h34 := fun (W : World) (hb : Below w.heap.size w W) (p : Nat) hp => c34 (ok.keep hb) hl p hp
  obtain ⟨ds, seen, snaps, da, dc, sa, sc, na, nc⟩ := h
  simp only [HistD.agg, HistD.dv, HistD.sv, HistD.nv] at hR h34 ⊢
  have hV := VarAt.new w 26 [.slice da ds.length dc, .slice sa seen.length sc, .slice na snaps.length nc]
  have h34' := h34 _ (below1 _ _) _ hV
  clear ok hV h34
  go_enter Try.func20, Try.ntmps20
  go_wp2_with (first
    | (go_at_call 34; refine h34'.mono ?_; rintro e w1 ⟨b, rfl, h1, hb1⟩)
    | fail)
  go_tidy
  refine ⟨!b, rfl, ?_, (below1 _ _).trans (hb1.mono (by simp))⟩
  rw [← h1]; simp
end Go.Proofs.Ytmdfilffoomckaa
