/- The queue's own stamps; those that wait. Conditions: each law's own. -/
import Derived.Test.YtamjdghjaimihaaQRead
import Derived.Test.YtamjdghjaimihaaFresh
namespace Go.Proofs.Ytamjdghjaimihaa
open Go.ChangeShapes Go.WideShapes Go.ChangeAt Go.RowKit

theorem find_some {L : List OneD} {o : OneD} (ha : Apart L) (ho : o ∈ L) : find L o.id = some o := by
  unfold find
  induction L with
  | nil => cases ho
  | cons a L ih =>
    unfold Apart at ha
    rw [List.pairwise_cons] at ha
    rw [List.find?_cons]
    rcases List.mem_cons.1 ho with rfl | h
    · simp
    · have : ¬ a.id = o.id := ha.1 o h
      simp only [this, decide_false]
      exact ih ha.2 h
theorem find_none {L : List OneD} {id : IdD} (h : ∀ o ∈ L, o.id ≠ id) : find L id = none := by
  unfold find
  rw [List.find?_eq_none]
  intro o ho; simpa using h o ho
section
variable {w : World} {x : Nat} {g : Int} {S : QS} {M : List MemO} {v : Value} {B : Nat}
theorem QAt.mem (h : QAt w x g S M v B) {y : MemO} (hy : y ∈ M) : y.o ∈ S.L := ord_mem.1 (h.lst ▸ List.mem_map_of_mem hy)
theorem QAt.found (h : QAt w x g S M v B) {y : MemO} (hy : y ∈ M) : find S.L y.o.id = some y.o := find_some h.ok.apart (h.mem hy)
theorem QAt.lost (h : QAt w x g S M v B) {id : IdD} (hno : ∀ y ∈ M, y.o.id ≠ id) : find S.L id = none := find_none fun o ho => by
  have : o ∈ M.map (·.o) := by rw [h.lst]; exact ord_mem.2 ho
  obtain ⟨y, hy, rfl⟩ := List.mem_map.1 this
  exact hno y hy
def ownV (o : Option Int) : Value := .tuple #[.int .u64 (o.getD 0), .bool o.isSome]
set_option maxHeartbeats 2000000 in
theorem c26 (h : QAt w x g S M v B) (id : IdD) : Calls Try.prog 26 #[.pointer (some ⟨x, 0, none⟩), .agg #[.int .i64 id.s, .int .i64 id.q]] w (TellV (ownV (ownS g S id)) w) := by
  refine gen (S := TellV (ownV (ownS g S id)) w) fun R hR => ?_
  have hb0 : Below w.heap.size w (w.alloc (.cells #[.int .i64 id.s, .int .i64 id.q] 31)) := (Below.refl _ _).alloc (Nat.le_refl _) _
  have h34 := c34 (h.below hb0) id
  have H34 := Lib.hid h34
  have HQ := Lib.hid h
  have HB0 := Lib.hid hb0
  have HR := Lib.hid hR
  clear h h34 hb0 hR
  go_enter Try.func26, Try.ntmps26
  go_upto_region 2 with (first | (go_at_call 34; refine H34.out.mono ?_; rintro e w2 ⟨hb2, hn⟩; have HN := Lib.hid hn; have HB2 := Lib.hid (HB0.out.trans (hb2.mono HB0.out.size)); clear hb2 hn; rcases HN.out with ⟨rfl, hno⟩ | ⟨k, y, rfl, hy, he⟩) | fail)
  · have hs : ownS g S id = none := by unfold ownS; rw [HQ.out.lost hno]; rfl
    have HS := Lib.hid hs
    clear hno hs
    go_wp2
    go_tidy
    exact HR.out _ _ ⟨by rw [HS.out]; rfl, HB2.out⟩
  · have hym := List.mem_of_getElem? hy
    have hs : ownS g S id = some (y.o.kn g) := by unfold ownS; rw [← he, HQ.out.found hym]; rfl
    have hy2 := ((HQ.out.below HB2.out).ones y hym).box
    have b3 := hy2.cell (j := 3) rfl
    have bl := hy2.lt
    have HS := Lib.hid hs
    clear hy he hym hs hy2
    unfold ptr
    go_wp2
    go_tidy
    exact HR.out _ _ ⟨by rw [HS.out]; rfl, HB2.out⟩
def encId (i : IdD) : List Value := [.int .i64 i.s, .int .i64 i.q]
theorem und22 : Try.prog.underlying 22 = some (.slice 31) := by kernel_rfl
theorem info31 : (Try.prog.info? 31).map (fun i => (i.zero, i.size, i.bytes)) = some (some (.agg #[.int .i64 0, .int .i64 0]), 2, 16) := by kernel_rfl
def WaitEnd (l : List IdD) (w : World) (e : Ending) (w' : World) : Prop := ∃ v, e = .returned v ∧ RowOf encId 2 w' v l ∧ Below w.heap.size w w'
def WaitRel (M : List MemO) (w : World) (out i : Value) (wr : World) : Prop :=
  ∃ (m : Nat) (a : Option Addr) (c : Nat), m ≤ M.length ∧ i = .int .i64 m ∧ out = .slice a m c ∧ wr.ownsRow w.heap.size 31 2 (.slice a m c) m ((M.take m).flatMap fun y => encId y.o.id) ∧ Below w.heap.size w wr
set_option maxHeartbeats 4000000 in
set_option maxRecDepth 100000 in
theorem c17 (h : QAt w x g S M v B) (hl : M.length ≤ 1000) : Calls Try.prog 17 #[.pointer (some ⟨x, 0, none⟩)] w (WaitEnd (waitingS g S) w) := by
  refine gen (S := WaitEnd (waitingS g S) w) fun R hR => ?_
  obtain ⟨ao, cap, rfl, hl1, hl2, hl3, -⟩ := id h.row
  have f2 := h.box.cell (j := 2) rfl
  have xl := h.box.lt
  have HQ := Lib.hid h
  have HR := Lib.hid hR
  clear h hR
  go_enter Try.func17, Try.ntmps17
  go_wp2_with fail
  go_loopw [3, 13] (fun out i wr => WaitRel M w out i wr) (fun _ i _ => M.length - (intOf i).toNat)
  case atStart => exact ⟨0, none, 0, by omega, rfl, rfl, World.ownsRow_nil _ _ _ _, Below.refl _ _⟩
  case round =>
    obtain ⟨m, a, c, hm, rfl, rfl, how, hb⟩ := hrel
    have HO := Lib.hid how
    have HB := Lib.hid hb
    rcases Nat.lt_or_ge m M.length with hlt | hge
    · obtain ⟨y, hy⟩ : ∃ y, M[m]? = some y := ⟨M[m], List.getElem?_eq_getElem hlt⟩
      have hq := HQ.out.below hb
      obtain ⟨gb, off, rfl, -, hgl, hc⟩ := hq.row.cell (i := m) (u := ptr y) (by rw [List.getElem?_map, hy]; rfl)
      have hmI : (m : Int) < (M.length : Int) := by omega
      have hyb := (hq.ones y (List.mem_of_getElem? hy)).box
      have b0 := hyb.cell (j := 0) rfl
      have b1 := hyb.cell (j := 1) rfl
      have bl := hyb.lt
      have HY := Lib.hid hy
      have HLT := Lib.hid hlt
      unfold ptr at hc
      clear how hb hy hlt hq hyb
      go_wp2_with (first
        | (at_builtin
           refine wpList_append_fresh (wr.alloc (.cells (encId y.o.id).toArray 31)) rfl (.tmp 17) (.tmp 22) 22 rfl w.heap.size 31 (.agg #[.int .i64 0, .int .i64 0]) 2 16 und22 info31 rfl (by decide) (.slice a m c) m ((M.take m).flatMap fun y => encId y.o.id) (by rfl) (HO.out.alloc _) ⟨wr.heap.size, 0, none⟩ 1 1 (encId y.o.id) (by rfl) rfl (cell_new wr (encId y.o.id) 31) (by simp [encId, Value.oneCell']) (by unfold maxLen; omega) (by omega) (by have := HB.out.size; simp; omega) ?_
           intro v5 w5 ho5 hg5 hT5
           obtain ⟨a5, c5, rfl⟩ : ∃ a c, v5 = .slice a (m + 1) c := by
             obtain ⟨-, ⟨rfl, h0⟩ | ⟨g', cap', cur, rfl, -⟩⟩ := id ho5
             · omega
             · exact ⟨_, _, rfl⟩
           have HO5 := Lib.hid ho5
           have HB5 := Lib.hid ((HB.out.alloc HB.out.size (.cells (encId y.o.id).toArray 31)).grown hg5 (by have := HB.out.size; simp; omega) fun k hk => (HO.out.lt k hk).1)
           clear ho5 hg5 hT5)
        | fail)
      go_tidy
      refine ⟨⟨m + 1, a5, c5, HLT.out, rfl, rfl, ?_, HB5.out⟩, by have := HLT.out; simp [intOf]; omega⟩
      rw [List.take_add_one, HY.out, List.flatMap_append]
      simpa using HO5.out
    · obtain rfl : m = M.length := by omega
      have hro : RowOf encId 2 wr (.slice a M.length c) (waitingS g S) := by
        have e1 : waitingS g S = M.map fun y => y.o.id := by unfold waitingS; rw [← HQ.out.lst, List.map_map]; rfl
        rw [e1]
        have := RowOf.of_owns (enc := encId) (k := 2) (xs := M.map fun y => y.o.id) (fun _ => rfl) (v := .slice a M.length c) (n := M.length) (base := w.heap.size) (e := 31) (w := wr) (by rw [List.flatMap_map]; rw [List.take_length] at how; exact how) (by simp)
        exact this
      have HRO := Lib.hid hro
      clear how hb hro
      go_wp2_with fail
      go_tidy
      exact HR.out _ _ ⟨_, rfl, HRO.out, HB.out⟩
end
end Go.Proofs.Ytamjdghjaimihaa
