/- What the reference tells. Conditions: each law's own. -/
import Derived.Test.YtamjdghjaimihaaRFind
namespace Go.Proofs.Ytamjdghjaimihaa
set_option linter.unusedVariables false
open Go.ChangeShapes Go.WideShapes Go.ChangeAt Go.RowKit

section
variable {w : World} {x : Nat} {g : Int} {S : QS} {L : List RefO} {lv : Value} {B : Nat}
theorem RefAt.found (h : RefAt w x g S L lv B) {k : Nat} {y : RefO} (hy : L[k]? = some y) : find S.L y.1.id = some y.1 := find_some h.ok.apart (h.mem (List.mem_of_getElem? hy))
theorem RefAt.lost (h : RefAt w x g S L lv B) {id : IdD} (hno : ∀ y ∈ L, y.1.id ≠ id) : find S.L id = none := find_none fun o ho => by
  rw [← h.lst] at ho
  obtain ⟨y, hy, rfl⟩ := List.mem_map.1 ho
  exact hno y hy
set_option maxHeartbeats 4000000 in
set_option maxRecDepth 100000 in
theorem c27 (h : RefAt w x g S L lv B) (hl : L.length ≤ 1000) (id : IdD) : Calls Try.prog 27 #[.pointer (some ⟨x, 0, none⟩), .agg #[.int .i64 id.s, .int .i64 id.q]] w (TellV (ownV (ownS g S id)) w) := by
  refine gen (S := TellV (ownV (ownS g S id)) w) fun R hR => ?_
  have hb0 : Below w.heap.size w (w.alloc (.cells #[.int .i64 id.s, .int .i64 id.q] 31)) := (Below.refl _ _).alloc (Nat.le_refl _) _
  have h42 := c42 (h.below hb0) hl id
  obtain ⟨la, lc, rfl⟩ := owns_slice' h.row
  have H42 := Lib.hid h42
  have H := Lib.hid h
  have HB0 := Lib.hid hb0
  have HR := Lib.hid hR
  clear h h42 hb0 hR
  go_enter Try.func27, Try.ntmps27
  go_upto_region 2 with (first | (go_at_call 42; refine H42.out.mono ?_; rintro e w2 ⟨n, rfl, hb2, hn⟩; have HN := Lib.hid hn; have HB2 := Lib.hid (HB0.out.trans (hb2.mono HB0.out.size)); clear hb2 hn; rcases HN.out with ⟨rfl, hno⟩ | ⟨k, y, rfl, hy, he⟩) | fail)
  · have hs : ownS g S id = none := by unfold ownS; rw [H.out.lost hno]; rfl
    have HS := Lib.hid hs
    clear hno hs
    go_wp2
    go_tidy
    exact HR.out _ _ ⟨by rw [HS.out]; rfl, HB2.out⟩
  · have hs : ownS g S id = some (y.1.kn g) := by unfold ownS; rw [← he, H.out.found hy]; rfl
    have hh := H.out.below HB2.out
    obtain ⟨lk, lcap, hle, hlkl, hlcap⟩ := row_addr hh.row (by have := (List.getElem?_eq_some_iff.1 hy).1; omega)
    cases hle
    have hkI : (k : Int) < (L.length : Int) := by have := (List.getElem?_eq_some_iff.1 hy).1; omega
    have hk0 : ¬ (k : Int) < 0 := by omega
    obtain ⟨-, -, -, y3, y4, y5, y6, yl⟩ := CellsR.of hh.row hy
    have x0 := hh.box.cell (j := 0) rfl
    have x2 := hh.box.cell (j := 2) rfl
    have xl := hh.box.lt
    have hg4 : g = 0 ∨ g = 1 ∨ g = 2 ∨ g = 3 := by have := H.out.g0; omega
    have HS := Lib.hid hs
    have HG := Lib.hid hg4
    have HR2 := Lib.hid (fun n => HR.out (.returned (ownV (ownS g S id))) (w2.drewN n) ⟨rfl, HB2.out.trans ((drewN_below w2 n).mono HB2.out.size)⟩)
    clear hy he hs hh hg4 HN H
    rw [HS.out] at HR2
    rcases HG.out with rfl | rfl | rfl | rfl
    all_goals
      go_upto_region 4 with fail
      go_quiet (fail)
      go_wp2
      go_tidy
      exact HR2.out _
set_option maxHeartbeats 4000000 in
set_option maxRecDepth 100000 in
theorem c28 (h : RefAt w x g S L lv B) (hl : L.length ≤ 1000) : Calls Try.prog 28 #[.pointer (some ⟨x, 0, none⟩)] w (TellV (.int .u64 (safeS g S)) w) := by
  refine gen (S := TellV (.int .u64 (safeS g S)) w) fun R hR => ?_
  have H43 := Lib.hid (c43 h hl)
  have H := Lib.hid h
  have HR := Lib.hid hR
  clear h hR
  go_enter Try.func28, Try.ntmps28
  go_upto_region 2 with (first | (go_at_call 43; refine H43.out.mono ?_; rintro e w2 ⟨v, L', rfl, how, hm, hp, hb2⟩; have HOW := Lib.hid how; have HM := Lib.hid hm; have HP := Lib.hid hp; have HB2 := Lib.hid hb2; clear how hm hp hb2) | fail)
  obtain ⟨va, vc, rfl⟩ := owns_slice' HOW.out
  have hh := H.out.below HB2.out
  have x1 := hh.box.cell (j := 1) rfl
  have xl := hh.box.lt
  cases L' with
  | nil =>
    have hs : safeS g S = S.clock := by unfold safeS; rw [← HM.out]; rfl
    have HR2 := Lib.hid (HR.out (.returned (.int .u64 S.clock)) w2 ⟨by rw [hs], HB2.out⟩)
    clear hh hs
    go_wp2
    go_tidy
    exact HR2.out
  | cons y L'' =>
    have hs : safeS g S = stampS g y.1 - 1 := by unfold safeS; rw [← HM.out]; rfl
    have hyL : y ∈ L := HP.out.mem_iff.1 (List.mem_cons_self ..)
    have hok := hh.okOf hyL
    have H45 := Lib.hid (c45 hh.box hh.g0 (hh.gok hyL))
    obtain ⟨vk, vcap, hle, hvkl, hvcap⟩ := row_addr HOW.out (by simp)
    cases hle
    obtain ⟨y0, y1, y2, y3, y4, y5, y6, yl⟩ := CellsR.of HOW.out (i := 0) (y := y) rfl
    have hp := stamp_pos hok
    have ht := hok.top
    have hc1 := hh.ok.clock1
    unfold mostS at hc1
    have hw1 : IntKind.u64.wrap (stampS g y.1 - 1) = stampS g y.1 - 1 := IntWalk.u64_in _ (by omega)
    have hlen : ¬ ((y :: L'').length : Int) = 0 := by simp <;> omega
    have hlen2 : (((y :: L'').length : Int) == 0) = false := by simpa using hlen
    have hlen3 : (0 : Int) < ((y :: L'').length : Int) := by simp <;> omega
    have hlen4 : 0 < (y :: L'').length := by simp
    have HFIN := Lib.hid (fun w3 (hb3 : Below w2.heap.size w2 w3) => HR.out (.returned (.int .u64 (stampS g y.1 - 1))) w3 ⟨by rw [hs], HB2.out.trans (hb3.mono HB2.out.size)⟩)
    generalize (y :: L'').length = n at *
    clear hh hs hyL hok HR HM HP HOW hlen
    generalize stampS g y.1 = sv at *
    unfold oneV at H45
    rw [Nat.zero_mul] at y0 y1 y2 y3 y4 y5 y6
    go_wp2_with (first | (go_at_call 45; refine H45.out.mono ?_; rintro e w3 ⟨rfl, hb3⟩; have HB3 := Lib.hid hb3; clear hb3) | fail)
    go_tidy
    exact HFIN.out _ HB3.out
def RWaitRel (L' : List RefO) (w : World) (w2 : World) (out i : Value) (wr : World) : Prop :=
  ∃ (m : Nat) (a : Option Addr) (c : Nat), m ≤ L'.length ∧ i = .int .i64 m ∧ out = .slice a m c ∧ wr.ownsRow w2.heap.size 31 2 (.slice a m c) m ((L'.take m).flatMap fun y => encId y.1.id) ∧ Below w2.heap.size w2 wr
set_option maxHeartbeats 4000000 in
set_option maxRecDepth 100000 in
theorem c30 (h : RefAt w x g S L lv B) (hl : L.length ≤ 1000) : Calls Try.prog 30 #[.pointer (some ⟨x, 0, none⟩)] w (WaitEnd (waitingS g S) w) := by
  refine gen (S := WaitEnd (waitingS g S) w) fun R hR => ?_
  have H43 := Lib.hid (c43 h hl)
  have HR := Lib.hid hR
  clear h hR
  go_enter Try.func30, Try.ntmps30
  go_wp2_with (first | (go_at_call 43; refine H43.out.mono ?_; rintro e w2 ⟨v, L', rfl, how, hm, hp, hb2⟩; have HOW := Lib.hid how; have HM := Lib.hid hm; have HLN := Lib.hid hp.length_eq; have HB2 := Lib.hid hb2; clear how hm hp hb2) | fail)
  obtain ⟨va, vc, rfl⟩ := owns_slice' HOW.out
  have hl' : L'.length ≤ 1000 := by have := HLN.out; omega
  go_loopw [3, 5] (fun out i wr => RWaitRel L' w w2 out i wr) (fun _ i _ => L'.length - (intOf i).toNat)
  case atStart => exact ⟨0, none, 0, by omega, rfl, rfl, World.ownsRow_nil _ _ _ _, Below.refl _ _⟩
  case round =>
    obtain ⟨m, a, c, hm, rfl, rfl, how, hb⟩ := hrel
    have HO := Lib.hid how
    have HB := Lib.hid hb
    rcases Nat.lt_or_ge m L'.length with hlt | hge
    · obtain ⟨y, hy⟩ : ∃ y, L'[m]? = some y := ⟨L'[m], List.getElem?_eq_getElem hlt⟩
      have hq := own_belowW HOW.out hb
      obtain ⟨vk, vcap, hle, hvkl, hvcap⟩ := row_addr hq (by omega)
      cases hle
      obtain ⟨y0, y1, -, -, -, -, -, yl⟩ := CellsR.of hq hy
      have hmI : (m : Int) < (L'.length : Int) := by omega
      have HY := Lib.hid hy
      have HLT := Lib.hid hlt
      clear how hb hy hlt hq
      go_wp2_with (first
        | (at_builtin
           refine wpList_append_fresh (wr.alloc (.cells (encId y.1.id).toArray 31)) rfl (.tmp 14) (.tmp 20) 22 rfl w2.heap.size 31 (.agg #[.int .i64 0, .int .i64 0]) 2 16 und22 info31 rfl (by decide) (.slice a m c) m ((L'.take m).flatMap fun y => encId y.1.id) (by rfl) (HO.out.alloc _) ⟨wr.heap.size, 0, none⟩ 1 1 (encId y.1.id) (by rfl) rfl (cell_new wr (encId y.1.id) 31) (by simp [encId, Value.oneCell']) (by unfold maxLen; omega) (by omega) (by have := HB.out.size; simp; omega) ?_
           intro v5 w5 ho5 hg5 hT5
           obtain ⟨a5, c5, rfl⟩ : ∃ a c, v5 = .slice a (m + 1) c := by
             obtain ⟨-, ⟨rfl, h0⟩ | ⟨g', cap', cur, rfl, -⟩⟩ := id ho5
             · omega
             · exact ⟨_, _, rfl⟩
           have HO5 := Lib.hid ho5
           have HB5 := Lib.hid ((HB.out.alloc HB.out.size (.cells (encId y.1.id).toArray 31)).grown hg5 (by have := HB.out.size; simp; omega) fun k hk => (HO.out.lt k hk).1)
           clear ho5 hg5 hT5)
        | fail)
      go_tidy
      refine ⟨⟨m + 1, a5, c5, HLT.out, rfl, rfl, ?_, HB5.out⟩, by have := HLT.out; simp [intOf]; omega⟩
      rw [List.take_add_one, HY.out, List.flatMap_append]
      simpa using HO5.out
    · obtain rfl : m = L'.length := by omega
      have hro : RowOf encId 2 wr (.slice a L'.length c) (waitingS g S) := by
        have e1 : waitingS g S = L'.map fun y => y.1.id := by unfold waitingS; rw [← HM.out, List.map_map]; rfl
        rw [e1]
        have := RowOf.of_owns (enc := encId) (k := 2) (xs := L'.map fun y => y.1.id) (fun _ => rfl) (v := .slice a L'.length c) (n := L'.length) (base := w2.heap.size) (e := 31) (w := wr) (by rw [List.flatMap_map]; rw [List.take_length] at how; exact how) (by simp)
        exact this
      have HRO := Lib.hid hro
      clear how hb hro
      go_wp2_with fail
      go_tidy
      exact HR.out _ _ ⟨_, rfl, HRO.out, HB2.out.trans (HB.out.mono HB2.out.size)⟩
end
end Go.Proofs.Ytamjdghjaimihaa
