/- The witness of a history. Conditions: each law's own. -/
import Derived.Test.YtmdfilffoomckaaSort
import Derived.Test.YtmdfilffoomckaaMapVals
namespace Go.Proofs.Ytmdfilffoomckaa
open Go.ChangeShapes Go.WideShapes Go.ChangeAt Go.RowKit

theorem underlying99 : Try.prog.underlying 99 = some (.map 39 4) := by kernel_rfl
theorem zero4 (w : World) : (zeroValue 4).run Try.prog w = .ok (.bool false) w := by kernel_rfl
def anyId (F : List DoneD) (i : IdD) : Bool := F.any fun x => decide (x.txn.id = i)
/-- The map of the ids that have been. -/
def SeenMap (M : List (IdD × Value × Nat)) (F : List DoneD) : Prop := ∀ i, (valOf M i).getD (.bool false) = .bool (anyId F i)
theorem look99 {w : World} {r : Nat} {l : List (IdD × Value × Nat)} {clock : Nat} {F : List DoneD} (h : MapAt encI w r l clock) (hs : SeenMap l F) (i : IdD) :
    (Instr.lookup 99 (.map (some r)) (.agg #[.int .i64 i.s, .int .i64 i.q]) false).run Try.prog w = .ok (.bool (anyId F i)) w := by
  have := run_lookup_made law39 underlying99 h i zero4
  rw [findIn_val, hs] at this
  exact this
theorem upd99 {w : World} {r : Nat} {l : List (IdD × Value × Nat)} {clock clock0 : Nat} (h : MapAt encI w r l clock) (hF : Fresh l clock0) (i : IdD) :
    (Instr.mapUpdate 99 (.map (some r)) (.agg #[.int .i64 i.s, .int .i64 i.q]) (.bool true)).run Try.prog w = .ok () (putMap encI w r (setVal (touch l i (.bool true) clock) i (.bool true)) (clockOf l i clock)) :=
  run_mapUpdate_made law39 underlying99 h hF i (.bool true)
theorem SeenMap.push {M : List (IdD × Value × Nat)} {F : List DoneD} (h : SeenMap M F) (d : DoneD) (c : Nat) : SeenMap (setVal (touch M d.txn.id (.bool true) c) d.txn.id (.bool true)) (F ++ [d]) := fun i => by
  rw [valOf_put]
  unfold anyId
  rw [List.any_append]
  by_cases hi : i = d.txn.id
  · simp [hi]
  · rw [if_neg hi, h i]
    have : ¬ (d.txn.id = i) := fun e => hi e.symm
    unfold anyId
    simp [this]
theorem underlying22 : Try.prog.underlying 22 = some (.slice 50) := by kernel_rfl
theorem info50 : (Try.prog.info? 50).map (fun i => (i.zero, i.size, i.bytes)) = some (some (.agg #[.int .i64 0, .int .i64 0, .slice none 0 0, .slice none 0 0, .bool false, .int .u64 0]), 6, 80) := by kernel_rfl
def WitRel (w : World) (ds : List DoneD) (l i : Value) (wr : World) : Prop :=
  ∃ (j : Nat) (M : List (IdD × Value × Nat)) (clock : Nat), j ≤ ds.length ∧ i = .int .i64 j ∧ wr.ownsRow (w.heap.size + 2) 50 6 l (first (ds.take j)).length ((first (ds.take j)).flatMap encDone) ∧
    MapAt encI wr (w.heap.size + 1) M clock ∧ Fresh M clock ∧ SeenMap M (first (ds.take j)) ∧ Below w.heap.size w wr
def WitEnd (w : World) (ds : List DoneD) (e : Ending) (w' : World) : Prop :=
  ∃ v L, e = .returned v ∧ IsWit ds L ∧ RowOf encDone 6 w' v L ∧ Below w.heap.size w w' ∧ ∀ g, v.ownBlock = some g → w.heap.size ≤ g
set_option maxHeartbeats 4000000 in
set_option maxRecDepth 100000 in
theorem c31 {w : World} {a : Option Addr} {cap : Nat} {ds : List DoneD} (sv nv : Value) (h : RowOf encDone 6 w (.slice a ds.length cap) ds) (hl : ds.length ≤ 1000) : Calls Try.prog 31 #[.agg #[.slice a ds.length cap, sv, nv]] w (WitEnd w ds) := by
  refine gen (S := WitEnd w ds) fun R hR => ?_
  have HD := Lib.hid h
  clear h
  have hmk : ∀ w, (Instr.makeMap 99 none).run Try.prog w = .ok (.map (some w.heap.size)) (w.alloc (.map #[] 0)) := fun _ => rfl
  go_enter Try.func31, Try.ntmps31
  go_wp2
  go_loopw [3, 11] (fun l i wr => WitRel w ds l i wr) (fun _ i _ => ds.length - (intOf i).toNat)
  case atStart =>
    refine ⟨0, [], 0, by omega, rfl, World.ownsRow_nil _ _ 50 6, ?_, .nil _, ?_, ((Below.refl _ _).alloc (Nat.le_refl _) _).alloc (by simp) _⟩
    · have := MapAt.new (enc := encI) (w.alloc (.cells #[.slice a ds.length cap, sv, nv] 26))
      rw [World.size_alloc] at this
      exact this
    · intro i; rfl
  case round =>
    obtain ⟨j, M, clock, hj, rfl, how, hM, hF, hS, hb⟩ := hrel
    rcases Nat.lt_or_ge j ds.length with hlt | hge
    · obtain ⟨b, o, d, rfl, hbl, hd, hc0, hc1, hc2, hc3, hc4, hc5⟩ := HD.out.doneAt hlt
      rw [← hb.cell (p := ⟨b, o + j * 6, none⟩) hbl] at hc0
      rw [← hb.cell (p := ⟨b, o + j * 6 + 1, none⟩) hbl] at hc1
      rw [← hb.cell (p := ⟨b, o + j * 6 + 2, none⟩) hbl] at hc2
      rw [← hb.cell (p := ⟨b, o + j * 6 + 3, none⟩) hbl] at hc3
      rw [← hb.cell (p := ⟨b, o + j * 6 + 4, none⟩) hbl] at hc4
      rw [← hb.cell (p := ⟨b, o + j * 6 + 5, none⟩) hbl] at hc5
      have hjl : (j : Int) < (ds.length : Int) := by omega
      have hstep : first (ds.take (j + 1)) = addF (first (ds.take j)) d := by rw [List.take_add_one, hd]; exact first_push _ _
      have hfl := first_len (ds.take j)
      rw [List.length_take] at hfl
      generalize hFF : first (ds.take j) = F at *
      have hlk := fun o => look99 (hM.alloc o) hS d.txn.id
      have hml := hM.lt
      have hmu := fun (o : Obj) => upd99 (hM.alloc o) hF d.txn.id
      have hsz := hb.size
      have HO := Lib.hid how
      have HM := Lib.hid hM
      have HF := Lib.hid hF
      have HS := Lib.hid hS
      have HB := Lib.hid hb
      have HST := Lib.hid hstep
      clear how hM hF hS hb hstep hd
      obtain ⟨dt, dy, dst⟩ := d
      simp only at hc0 hc1 hc2 hc3 hc4 hc5 hlk hmu
      cases dy with
      | false =>
        clear hlk hmu
        go_wp2
        go_tidy
        refine ⟨⟨j + 1, M, clock, by omega, rfl, ?_, HM.out.alloc _, HF.out, ?_, HB.out.alloc hsz _⟩, by simp [intOf]; omega⟩
        · rw [HST.out]; exact HO.out.alloc _
        · rw [HST.out]; exact HS.out
      | true =>
        cases hA : anyId F dt.id with
        | true =>
          rw [hA] at hlk
          clear hmu
          go_wp2
          go_tidy
          have hF2 : addF F ⟨dt, true, dst⟩ = F := by unfold addF; rw [if_neg]; unfold anyId at hA; simp only at hA ⊢; rw [hA]; decide
          rw [hF2] at HST
          refine ⟨⟨j + 1, M, clock, by omega, rfl, ?_, HM.out.alloc _, HF.out, ?_, HB.out.alloc hsz _⟩, by simp [intOf]; omega⟩
          · rw [HST.out]; exact HO.out.alloc _
          · rw [HST.out]; exact HS.out
        | false =>
          rw [hA] at hlk
          have hF2 : addF F ⟨dt, true, dst⟩ = F ++ [⟨dt, true, dst⟩] := by unfold addF; rw [if_pos]; unfold anyId at hA; simp only at hA ⊢; rw [hA]; decide
          rw [hF2] at HST
          have hK : VarAt (putMap encI (wr.alloc (.cells #[.int .i64 dt.id.s, .int .i64 dt.id.q, .slice dt.ra dt.reads.length dt.rc, .slice dt.wa dt.writes.length dt.wc, .bool true, .int .u64 dst] 50)) (w.heap.size + 1) (setVal (touch M dt.id (.bool true) clock) dt.id (.bool true)) (clockOf M dt.id clock)) wr.heap.size 50 (encDone ⟨dt, true, dst⟩) :=
            (VarAt.new wr 50 (encDone ⟨dt, true, dst⟩)).put (by omega) _ _
          have hq0 := hK.cell (j := 0) (u := .int .i64 dt.id.s) rfl
          have hq1 := hK.cell (j := 1) (u := .int .i64 dt.id.q) rfl
          have hq2 := hK.cell (j := 2) (u := dt.rv) rfl
          have hq3 := hK.cell (j := 3) (u := dt.wv) rfl
          have hq4 := hK.cell (j := 4) (u := .bool true) rfl
          have hq5 := hK.cell (j := 5) (u := .int .u64 dst) rfl
          have hPB : Below w.heap.size w (putMap encI (wr.alloc (.cells #[.int .i64 dt.id.s, .int .i64 dt.id.q, .slice dt.ra dt.reads.length dt.rc, .slice dt.wa dt.writes.length dt.wc, .bool true, .int .u64 dst] 50)) (w.heap.size + 1) (setVal (touch M dt.id (.bool true) clock) dt.id (.bool true)) (clockOf M dt.id clock)) := putMap_below (HB.out.alloc hsz _) (Nat.le_succ _) _ _
          have hPM := putMap_at (enc := encI) (w := wr.alloc (.cells #[.int .i64 dt.id.s, .int .i64 dt.id.q, .slice dt.ra dt.reads.length dt.rc, .slice dt.wa dt.writes.length dt.wc, .bool true, .int .u64 dst] 50)) (r := w.heap.size + 1) (by simp; omega) (setVal (touch M dt.id (.bool true) clock) dt.id (.bool true)) (clockOf M dt.id clock)
          have HPB := Lib.hid hPB
          have HPM := Lib.hid hPM
          clear hK hPB hPM
          go_wp2_with (first
            | (at_builtin; (refine append_new (us := encDone ⟨dt, true, dst⟩) _ rfl (.tmp 29) (.tmp 31) 22 rfl (w.heap.size + 2) 50 (.agg #[.int .i64 0, .int .i64 0, .slice none 0 0, .slice none 0 0, .bool false, .int .u64 0]) 6 80 underlying22 info50 rfl (by decide) rfl (by simp [encDone, Value.oneCell']) u3 F.length _ (by rfl) (owns_put (HO.out.alloc _) (Nat.lt_succ_self _) _ _) (by rw [putMap_size, World.size_alloc]; rfl) (by unfold maxLen; omega) (by omega) (by simp [putMap_size]; omega) ?_); intro v' w3 hown3 hg3 hn3)
            | fail)
          go_tidy
          refine ⟨⟨j + 1, _, _, by omega, rfl, ?_, HPM.out.grown hg3 ?_, (HF.out.touch _ _).setVal _ _, ?_, HPB.out.grown hg3 (by simp [putMap_size]; omega) ?_⟩, by simp [intOf]; omega⟩
          · rw [HST.out]; simpa using hown3
          · intro e
            have := (HO.out.lt _ e.symm).1
            omega
          · rw [HST.out]; exact HS.out.push ⟨dt, true, dst⟩ clock
          · intro k hk
            have := (HO.out.lt _ hk).1
            omega
    · obtain rfl : j = ds.length := by omega
      rw [List.take_length] at how hS
      have hfl := first_len ds
      have hsz2 : w.heap.size + 2 ≤ wr.heap.size := hM.lt
      have h40 := c40 (first ds) how (by omega) hsz2
      have HB := Lib.hid hb
      have HLT := Lib.hid how.lt
      clear how hM hF hS hb
      go_wp2_with (first
        | (go_at_call 40
           refine h40.mono ?_
           rintro e w' ⟨rfl, L, hp, hs, hr, hb2⟩)
        | fail)
      go_tidy
      exact ⟨_, L, rfl, IsWit.sorted hp hs, hr, HB.out.trans (hb2.mono (by omega)), fun g hg => by have := (HLT.out g hg).1; omega⟩
end Go.Proofs.Ytmdfilffoomckaa
