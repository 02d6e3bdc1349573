/- The reference: does one count for the witness. Conditions: each law's own. -/
import Derived.Test.YtmdfilffoomckaaEq
import Derived.Test.YtmdfilffoomckaaValue
import Derived.Test.YtmdfilffoomckaaFresh
namespace Go.Proofs.Ytmdfilffoomckaa
open Go.ChangeShapes Go.WideShapes Go.ChangeAt Go.RowKit

theorem below_drewN {B : Nat} {w W : World} (h : Below B w W) (n : Nat) : Below B w (W.drewN n) := ⟨h.os, h.tape, h.output, h.size, h.block⟩
def anyY (l : List DoneD) (i : IdD) : Bool := l.any fun x => x.yes && decide (x.txn.id = i)
def cntB (l : List DoneD) (d : DoneD) : Bool := d.yes && !anyY l d.txn.id
theorem anyY_none {ds : List DoneD} {i : Nat} {id : IdD} (h : ∀ (m : Nat) y, m < i → ds[m]? = some y → ¬ (y.yes = true ∧ y.txn.id = id)) : anyY (ds.take i) id = false := by
  unfold anyY
  rw [List.any_eq_false]
  intro x hx
  obtain ⟨m, hm⟩ := List.getElem?_of_mem hx
  rw [List.getElem?_take] at hm
  split at hm
  · rename_i hl; simpa using h m x hl hm
  · cases hm
theorem anyY_some {ds : List DoneD} {i m : Nat} {id : IdD} {y : DoneD} (hm : m < i) (hy : ds[m]? = some y) (h1 : y.yes = true) (h2 : y.txn.id = id) : anyY (ds.take i) id = true := by
  unfold anyY
  rw [List.any_eq_true]
  exact ⟨y, List.mem_of_getElem? (i := m) (by rw [List.getElem?_take, if_pos hm]; exact hy), by simp [h1, h2]⟩
theorem cnt_first {ds : List DoneD} {j : Nat} {d : DoneD} (h : ds[j]? = some d) : first (ds.take (j + 1)) = if cntB (ds.take j) d then first (ds.take j) ++ [d] else first (ds.take j) := by
  rw [List.take_add_one, h, Option.toList_some, first_push]
  unfold addF cntB anyY
  rw [first_any]
def CntRel (ds : List DoneD) (id : IdD) (i : Nat) (W1 : World) (kv : Value) (wr : World) : Prop :=
  ∃ k n : Nat, k ≤ i ∧ kv = .int .i64 k ∧ (∀ (m : Nat) y, m < k → ds[m]? = some y → ¬ (y.yes = true ∧ y.txn.id = id)) ∧ wr = W1.drewN n
set_option maxHeartbeats 4000000 in
set_option maxRecDepth 100000 in
theorem c29 {w : World} {a : Option Addr} {cap : Nat} {ds : List DoneD} {d : DoneD} (sv nv : Value) (h : RowOf encDone 6 w (.slice a ds.length cap) ds) (i : Nat) (hd : ds[i]? = some d) :
    Calls Try.prog 29 #[.agg #[.slice a ds.length cap, sv, nv], .int .i64 i] w fun e w' => e = .returned (.bool (cntB (ds.take i) d)) ∧ Below w.heap.size w w' := by
  refine gen fun R hR => ?_
  have hi : i < ds.length := (List.getElem?_eq_some_iff.1 hd).1
  have hiI : (i : Int) < (ds.length : Int) := by omega
  have hln : ds.length ≤ maxLen := h.len
  unfold maxLen at hln
  obtain ⟨bd, od, d2, rfl, hbl, hd2, hi0, hi1, -, -, hi4, -⟩ := h.doneAt hi
  rw [hd] at hd2; injection hd2 with hd2; subst hd2
  obtain ⟨⟨⟨ds1, dq1⟩, drd, dws, dra, drc, dwa, dwc⟩, dy, dst⟩ := d
  simp only at hi0 hi1 hi4
  have H := Lib.hid h
  have HD := Lib.hid hd
  clear h hd
  go_enter Try.func29, Try.ntmps29
  go_wp2
  generalize hW : (w.alloc (.cells #[.slice (some ⟨bd, od, none⟩) ds.length cap, sv, nv] 34)) = W1
  have hb1 : Below w.heap.size w W1 := by rw [← hW]; exact (Below.refl _ _).alloc (Nat.le_refl _) _
  have hK : VarAt W1 w.heap.size 34 [.slice (some ⟨bd, od, none⟩) ds.length cap, sv, nv] := by rw [← hW]; exact VarAt.new w 34 _
  have hc0 := hK.cell (j := 0) rfl
  rw [← hb1.cell (p := ⟨bd, od + i * 6, none⟩) hbl] at hi0
  rw [← hb1.cell (p := ⟨bd, od + i * 6 + 1, none⟩) hbl] at hi1
  rw [← hb1.cell (p := ⟨bd, od + i * 6 + 4, none⟩) hbl] at hi4
  have H1 := Lib.hid (H.out.keep hb1)
  have HB1 := Lib.hid hb1
  have hw1 : w.heap.size < W1.heap.size := hK.lt
  clear hW hb1 hK
  go_loopw [5] (fun k wr => CntRel ds ⟨ds1, dq1⟩ i W1 k wr) (fun k _ => i - (intOf k).toNat)
  case atStart => exact ⟨0, 0, by omega, rfl, fun m y hm => by omega, rfl⟩
  case round =>
    obtain ⟨k, n, hk, rfl, hno, rfl⟩ := hrel
    have HN := Lib.hid hno
    clear hno
    rcases Nat.lt_or_ge k i with hlt | hge
    · obtain ⟨by_, oy, y, hby, -, hy, hk0, hk1, -, -, hk4, -⟩ := H1.out.doneAt (i := k) (by omega)
      cases hby
      obtain ⟨⟨⟨s1, q1⟩, yrd, yws, yra, yrc, ywa, ywc⟩, yy, yst⟩ := y
      simp only at hk0 hk1 hk4
      have hkI : (k : Int) < (i : Int) := by omega
      have hkL : (k : Int) < (ds.length : Int) := by omega
      have HY := Lib.hid hy
      clear hy
      cases yy with
      | false =>
        go_wp2
        go_quiet (fail)
        go_wp2
        go_tidy
        refine ⟨⟨k + 1, _, by omega, rfl, fun m y hm hy => ?_, rfl⟩, by simp [intOf]; omega⟩
        rcases Nat.lt_or_ge m k with h1 | h1
        · exact HN.out m y h1 hy
        · obtain rfl : m = k := by omega
          rw [HY.out] at hy; cases hy; simp
      | true =>
        have heq := eql39 ⟨s1, q1⟩ ⟨ds1, dq1⟩
        simp only at heq
        by_cases he : (⟨s1, q1⟩ : IdD) = ⟨ds1, dq1⟩
        · rw [decide_eq_true he] at heq
          have HE := Lib.hid he
          clear he
          go_wp2
          go_quiet (fail)
          go_wp2
          go_tidy
          refine ⟨?_, below_drewN (below_drewN HB1.out _) _⟩
          have := anyY_some hlt HY.out rfl HE.out
          unfold cntB; rw [this]; simp
        · rw [decide_eq_false he] at heq
          have HE := Lib.hid he
          clear he
          go_wp2
          go_quiet (fail)
          go_wp2
          go_tidy
          refine ⟨⟨k + 1, _, by omega, rfl, fun m y hm hy => ?_, rfl⟩, by simp [intOf]; omega⟩
          rcases Nat.lt_or_ge m k with h1 | h1
          · exact HN.out m y h1 hy
          · obtain rfl : m = k := by omega
            rw [HY.out] at hy; cases hy
            exact fun h => HE.out h.2
    · obtain rfl : k = i := by omega
      go_wp2
      go_tidy
      refine ⟨?_, below_drewN HB1.out _⟩
      unfold cntB; rw [anyY_none HN.out]; simp
end Go.Proofs.Ytmdfilffoomckaa
