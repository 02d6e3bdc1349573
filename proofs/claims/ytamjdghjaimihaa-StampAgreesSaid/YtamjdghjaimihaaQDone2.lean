/- Done: the walk. Conditions: each law's own. -/
import Derived.Test.YtamjdghjaimihaaQDone
namespace Go.Proofs.Ytamjdghjaimihaa
open Go.ChangeShapes Go.WideShapes Go.ChangeAt Go.RowKit

theorem QStep.belowL {x : Nat} {w w1 w2 : World} {M M' : List MemO} {v v' : Value} (hb : Below w.heap.size w w1) (h : QStep x w1 M v w2 M' v') : QStep x w M v w2 M' v' := (QStep.of_below hb).trans h
section
variable {w : World} {x : Nat} {g : Int} {S : QS} {M : List MemO} {v : Value} {B : Nat}
def boolV (b : Bool) : Value := .bool b
set_option maxHeartbeats 4000000 in
set_option maxRecDepth 100000 in
theorem c14 (h : QAt w x g S M v B) (id : IdD) : Calls Try.prog 14 #[.pointer (some ⟨x, 0, none⟩), .agg #[.int .i64 id.s, .int .i64 id.q]] w (QEnd x g B w M v (.bool (doneS g S id).1) (doneS g S id).2) := by
  refine gen (S := QEnd x g B w M v (.bool (doneS g S id).1) (doneS g S id).2) fun R hR => ?_
  have hb0 : Below w.heap.size w (w.alloc (.cells #[.int .i64 id.s, .int .i64 id.q] 31)) := (Below.refl _ _).alloc (Nat.le_refl _) _
  have hI := VarAt.new w 31 [.int .i64 id.s, .int .i64 id.q]
  have h13 := c13 (h.below hb0)
  have no : (doneS g S id) = (false, S) → ∀ W, Below w.heap.size w W → R (.returned (.bool false)) W := fun hd W hb => hR _ _ (by rw [hd]; exact ⟨rfl, M, v, h.below hb, QStep.of_below hb⟩)
  have NO := Lib.hid no
  have HQ := Lib.hid h
  have HB0 := Lib.hid hb0
  have HI := Lib.hid hI
  have HR := Lib.hid hR
  cases hnx : nextS g S with
  | none =>
    rw [hnx] at h13
    unfold nextV at h13
    have H13 := Lib.hid h13
    have hd : doneS g S id = (false, S) := by unfold doneS; rw [hnx]
    have NOW := Lib.hid (NO.out hd)
    clear h h13 hb0 hI hR no hnx hd
    go_enter Try.func14, Try.ntmps14
    go_wp2_with (first | (go_at_call 13; refine H13.out.mono ?_; rintro e w2 ⟨rfl, hb2⟩; have HB2 := Lib.hid (HB0.out.trans (hb2.mono HB0.out.size)); clear hb2) | fail)
    go_tidy
    exact NOW.out _ (HB2.out.alloc HB2.out.size _)
  | some p =>
    obtain ⟨id1, s1⟩ := p
    rw [hnx] at h13
    unfold nextV at h13
    simp only at h13
    have H13 := Lib.hid h13
    have hne := neq31 id1 id
    have HNX := Lib.hid hnx
    clear h h13 hb0 hI hR no hnx
    by_cases hid : id1 = id
    · have hdt : decide (id1 = id) = true := decide_eq_true hid
      rw [hdt] at hne
      simp only [Bool.not_true] at hne
      have HID := Lib.hid hid
      clear hid hdt
      go_enter Try.func14, Try.ntmps14
      go_upto_region 4 with (first | (go_at_call 13; refine H13.out.mono ?_; rintro e w2 ⟨rfl, hb2⟩; have HB2 := Lib.hid (HB0.out.trans (hb2.mono HB0.out.size)); have hi2 := HI.out.keep hb2 HI.out.lt; have i0 := hi2.cell (j := 0) rfl; have i1 := hi2.cell (j := 1) rfl; have il := hi2.lt; clear hb2 hi2) | fail)
      generalize hW : World.alloc _ _ = w3
      have hb3 : Below w.heap.size w w3 := by rw [← hW]; exact HB2.out.alloc HB2.out.size _
      have hq := HQ.out.below hb3
      have HB3 := Lib.hid hb3
      clear hW i0 i1 il
      cases M with
      | nil => have := HNX.out; unfold nextS at this; rw [hq.nil] at this; cases this
      | cons y M' =>
        have hn := next_cons hq
        rw [HNX.out] at hn
        have hyid : y.o.id = id := by
          split at hn
          · rw [← HID.out]; injection hn with hn; injection hn with hn; exact hn.symm
          · cases hn
        have hd : doneS g S id = (true, ⟨S.clock, S.L.filter fun o => decide (o.id ≠ y.o.id)⟩) := by
          unfold doneS
          rw [HNX.out, hyid]
          simp [HID.out]
        obtain ⟨ao, cap, rfl, hl1, hl2, hl3, -⟩ := _root_.id hq.row
        obtain ⟨gb, off, rfl, -, hgl, hc⟩ := hq.row.cell (i := 0) (u := ptr y) rfl
        have hpop := hq.pop
        have f2 := hq.box.cell (j := 2) rfl
        have f2f := hq.box.free 2
        have xl := hq.box.lt
        unfold maxLen at hl3
        have hcap1 : (1 : Int) ≤ ((M'.length + 1 : Nat) : Int) := by omega
        have HP := Lib.hid hpop
        have HD := Lib.hid hd
        rw [show (y :: M').length = M'.length + 1 from rfl] at hl2 f2
        clear hn hyid hd hq hpop hc hb3
        by_cases hc1 : cap = 1
        · subst hc1
          obtain rfl : M' = [] := List.eq_nil_of_length_eq_zero (by omega)
          have hp := HP.out
          have e1 : PopA gb off 1 = some ⟨gb, off, none⟩ := rfl
          rw [e1] at hp
          have HP1 := Lib.hid hp
          clear hp e1
          go_wp2
          go_tidy
          refine HR.out _ _ ?_
          rw [HD.out]
          exact ⟨rfl, [], _, HP1.out.1, QStep.belowL HB3.out HP1.out.2⟩
        · have hp := HP.out
          have e1 : PopA gb off cap = some ⟨gb, off + 1, none⟩ := by unfold PopA; rw [if_neg hc1]
          rw [e1] at hp
          have HP1 := Lib.hid hp
          clear hp e1
          go_wp2
          go_tidy
          refine HR.out _ _ ?_
          rw [HD.out]
          exact ⟨rfl, M', _, HP1.out.1, QStep.belowL HB3.out HP1.out.2⟩
    · have hdf : decide (id1 = id) = false := decide_eq_false hid
      rw [hdf] at hne
      simp only [Bool.not_false] at hne
      have hd : doneS g S id = (false, S) := by unfold doneS; rw [HNX.out]; simp [hid]
      have NOW := Lib.hid (NO.out hd)
      clear hid hdf hd
      go_enter Try.func14, Try.ntmps14
      go_wp2_with (first | (go_at_call 13; refine H13.out.mono ?_; rintro e w2 ⟨rfl, hb2⟩; have HB2 := Lib.hid (HB0.out.trans (hb2.mono HB0.out.size)); have hi2 := HI.out.keep hb2 HI.out.lt; have i0 := hi2.cell (j := 0) rfl; have i1 := hi2.cell (j := 1) rfl; have il := hi2.lt; clear hb2 hi2) | fail)
      go_tidy
      exact NOW.out _ (HB2.out.alloc HB2.out.size _)
end
end Go.Proofs.Ytamjdghjaimihaa
