/- Witness: the ids. Conditions: each law's own. -/
import Derived.Test.YtmdfilffoomckaaAhead
namespace Go.Proofs.Ytmdfilffoomckaa
open Go.ChangeShapes Go.WideShapes Go.ChangeAt Go.RowKit

theorem underlying36 : Try.prog.underlying 36 = some (.slice 39) := by kernel_rfl
theorem info39 : (Try.prog.info? 39).map (fun i => (i.zero, i.size, i.bytes)) = some (some (.agg #[.int .i64 0, .int .i64 0]), 2, 16) := by kernel_rfl
def idsOf (L : List DoneD) : List IdD := L.map (·.txn.id)
theorem idsOf_take {L : List DoneD} {m : Nat} {d : DoneD} (h : L[m]? = some d) : idsOf (L.take (m + 1)) = idsOf (L.take m) ++ [d.txn.id] := by
  unfold idsOf
  rw [List.take_add_one, h]; simp
theorem idsOf_len {L : List DoneD} {m : Nat} (h : m ≤ L.length) : (idsOf (L.take m)).length = m := by
  unfold idsOf; rw [List.length_map, List.length_take]; omega
def IdsRel (L : List DoneD) (w1 : World) (out i : Value) (wr : World) : Prop :=
  ∃ m : Nat, m ≤ L.length ∧ i = .int .i64 m ∧ wr.ownsRow w1.heap.size 39 2 out m ((idsOf (L.take m)).flatMap encId) ∧ Below w1.heap.size w1 wr
def IdsEnd (ds : List DoneD) (w : World) (e : Ending) (w' : World) : Prop := ∃ v, e = .returned v ∧ RowOf encId 2 w' v (idsOf (wit ds)) ∧ Below w.heap.size w w'
set_option maxHeartbeats 4000000 in
set_option maxRecDepth 100000 in
theorem c15 {w : World} {a : Option Addr} {cap : Nat} {ds : List DoneD} (sv nv : Value) (h : RowOf encDone 6 w (.slice a ds.length cap) ds) (hl : ds.length ≤ 1000) : Calls Try.prog 15 #[.agg #[.slice a ds.length cap, sv, nv]] w (IdsEnd ds w) := by
  refine gen (S := IdsEnd ds w) fun R hR => ?_
  have h31 := fun W (hb : Below w.heap.size w W) => c31 (w := W) sv nv (h.keep hb) hl
  have hwl := wit_len ds
  have huq : ∀ L, IsWit ds L → L = wit ds := fun L h => h.eq
  have hend : ∀ (v : Value) w', RowOf encId 2 w' v (idsOf (wit ds)) → Below w.heap.size w w' → R (.returned v) w' := fun v w' h1 h2 => hR _ _ ⟨v, rfl, h1, h2⟩
  have HEND := Lib.hid hend
  clear hR hend
  generalize hL : wit ds = L at *
  have HUQ := Lib.hid huq
  clear huq h
  go_enter Try.func15, Try.ntmps15
  go_wp2_with fail
  refine (h31 _ (below1 _ _)).mono ?_
  rintro e w1 ⟨v, L', rfl, hw, hv, hb1, -⟩
  obtain rfl := (HUQ.out L' hw).symm
  have hB := (below1 w (.cells #[.slice a ds.length cap, sv, nv] 26)).trans (hb1.mono (by simp))
  obtain ⟨va, vc, rfl, hvc, -⟩ := id hv
  have HV := Lib.hid hv
  have HB := Lib.hid hB
  clear hv hB hb1 hw h31
  go_wp2_with fail
  go_loopw [3, 9] (fun out i wr => IdsRel L w1 out i wr) (fun _ i _ => L.length - (intOf i).toNat)
  case atStart => exact ⟨0, by omega, rfl, World.ownsRow_nil _ _ _ _, Below.refl _ _⟩
  case round =>
    obtain ⟨m, hm, rfl, how, hbx⟩ := hrel
    obtain ⟨oa, oc, rfl⟩ := owns_slice how
    have HO := Lib.hid how
    have HBX := Lib.hid hbx
    rcases Nat.lt_or_ge m L.length with hlt | hge
    · obtain ⟨b, o, d, rfl, hbl, hd, hc0, hc1, hc2, hc3, hc4, hc5⟩ := HV.out.doneAt hlt
      rw [← hbx.cell (p := ⟨b, o + m * 6, none⟩) hbl] at hc0
      rw [← hbx.cell (p := ⟨b, o + m * 6 + 1, none⟩) hbl] at hc1
      rw [← hbx.cell (p := ⟨b, o + m * 6 + 2, none⟩) hbl] at hc2
      rw [← hbx.cell (p := ⟨b, o + m * 6 + 3, none⟩) hbl] at hc3
      rw [← hbx.cell (p := ⟨b, o + m * 6 + 4, none⟩) hbl] at hc4
      rw [← hbx.cell (p := ⟨b, o + m * 6 + 5, none⟩) hbl] at hc5
      have hmI : (m : Int) < (L.length : Int) := by omega
      have hst := idsOf_take hd
      have HST := Lib.hid hst
      have hsz := hbx.size
      generalize hI : idsOf (L.take m) = I at *
      have HI := Lib.hid hI
      clear how hbx hst hd hI
      go_wp2_with (first
        | (at_builtin
           refine append_new (wr.alloc (.cells (encDone d).toArray 50)) rfl (.tmp 13) (.tmp 17) 36 rfl w1.heap.size 39 (.agg #[.int .i64 0, .int .i64 0]) 2 16 underlying36 info39 rfl (by decide) (encId d.txn.id) rfl (by simp [encId, Value.oneCell']) (.slice oa m oc) m (I.flatMap encId) (by rfl) (HO.out.alloc _) (by rw [World.size_alloc]; rfl) (by unfold maxLen; omega) (by omega) (by simp; omega) ?_
           intro v' w3 hown3 hg3 hn3
           have HO3 := Lib.hid hown3
           have HB3 := Lib.hid ((HBX.out.alloc hsz (.cells (encDone d).toArray 50)).grown hg3 (by simp; omega) (fun k hk => (HO.out.lt k hk).1))
           clear hown3 hg3 hn3)
        | fail)
      go_tidy
      refine ⟨⟨m + 1, by omega, rfl, ?_, HB3.out⟩, by simp [intOf]; omega⟩
      rw [HST.out, List.flatMap_append]
      simpa using HO3.out
    · obtain rfl : m = L.length := by omega
      rw [List.take_length] at how
      have HR2 := Lib.hid (RowOf.of_owns (enc := encId) (k := 2) (fun _ => rfl) how (by unfold idsOf; simp))
      clear how hbx
      go_wp2
      go_tidy
      exact HEND.out _ _ HR2.out (HB.out.trans (HBX.out.mono HB.out.size))
end Go.Proofs.Ytmdfilffoomckaa
