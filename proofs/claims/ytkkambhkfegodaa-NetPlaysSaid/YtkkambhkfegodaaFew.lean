/- few: a script of a size that is looked at. Conditions: each law's own. -/
import Derived.Test.YtkkambhkfegodaaAct
namespace Go.Proofs.Ytkkambhkfegodaa
open Go.ChangeShapes Go.WideShapes Go.ChangeAt Go.RowKit

theorem RowOf.op {w : World} {a : Option Addr} {n cap : Nat} {os : List OpV} (h : RowOf OpV.cells 6 w (.slice a n cap) os) {i : Nat} (hi : i < os.length) :
    ∃ b o q, a = some ⟨b, o, none⟩ ∧ b < w.heap.size ∧ os[i]? = some q ∧ w.cell? ⟨b, o + i * 6, none⟩ = some (.int .i64 q.kind) ∧ w.cell? ⟨b, o + i * 6 + 1, none⟩ = some (.int .i64 q.f) ∧ w.cell? ⟨b, o + i * 6 + 2, none⟩ = some (.int .i64 q.t) ∧
      w.cell? ⟨b, o + i * 6 + 3, none⟩ = some (.int .i64 q.a) ∧ w.cell? ⟨b, o + i * 6 + 4, none⟩ = some (.int .i64 q.d) ∧ w.cell? ⟨b, o + i * 6 + 5, none⟩ = some q.v := by
  obtain ⟨a', cap', hv, h1, h2, h3⟩ := h
  cases hv
  obtain ⟨b, o, rfl, hlt, hc⟩ := h3 (by omega)
  have hp : os[i]? = some os[i] := List.getElem?_eq_getElem hi
  exact ⟨b, o, os[i], rfl, hlt, hp, hc i 0 _ _ hp rfl, hc i 1 _ _ hp rfl, hc i 2 _ _ hp rfl, hc i 3 _ _ hp rfl, hc i 4 _ _ hp rfl, hc i 5 _ _ hp rfl⟩
def fewB (os : List OpV) : Bool := decide (os.length ≤ 200 ∧ ∀ o ∈ os, o.bs.length ≤ 1000)
def FewRel (w : World) (os : List OpV) (i : Value) (wr : World) : Prop := ∃ j : Nat, j ≤ os.length ∧ j ≤ 300 ∧ i = .int .i64 j ∧ (∀ o ∈ os.take j, o.bs.length ≤ 1000) ∧ wr = w
set_option maxHeartbeats 1000000 in
theorem c16 {w : World} {a : Option Addr} {cap : Nat} {os : List OpV} (h : RowOf OpV.cells 6 w (.slice a os.length cap) os) (hr : ∀ o ∈ os, ∃ W, RowOf encB 1 W o.v o.bs) :
    Calls Try.prog 16 #[.slice a os.length cap] w fun e w' => e = .returned (.bool (fewB os)) ∧ w' = w := by
  refine gen fun R hR => ?_
  have hml : os.length ≤ 9223372036854775807 := by have := h.len; unfold maxLen at this; exact this
  have H := Lib.hid h
  have HR := Lib.hid hr
  clear h hr
  go_enter Try.func16, Try.ntmps16
  go_wp2
  go_loopw [3] (fun i wr => FewRel w os i wr) (fun i _ => 300 - (intOf i).toNat)
  case atStart => exact ⟨0, by omega, by omega, rfl, by simp, rfl⟩
  case round =>
    obtain ⟨j, hj, hj3, rfl, hfew, rfl⟩ := hrel
    by_cases hlt : j < os.length
    · have hlt2 : (j : Int) < (os.length : Int) := by omega
      by_cases h3 : j < 300
      · have h32 : (j : Int) < 300 := by omega
        obtain ⟨b, o, q, rfl, hbl, hq, hc0, hc1, hc2, hc3, hc4, hc5⟩ := H.out.op hlt
        obtain ⟨W, hW⟩ := HR.out q (List.mem_of_getElem? hq)
        obtain ⟨va, c, hv, hvc, hvm, -⟩ := hW
        rw [hv] at hc5
        have hbm : q.bs.length ≤ 9223372036854775807 := by unfold maxLen at hvm; omega
        have HF := Lib.hid hfew
        have HQ := Lib.hid hq
        clear hfew hq hc0 hc1 hc2 hc3 hc4
        by_cases hs : q.bs.length ≤ 1000
        · have hs2 : ¬ (1000 < (q.bs.length : Int)) := by omega
          go_wp2
          go_tidy
          refine ⟨⟨j + 1, by omega, by omega, rfl, fun o ho => ?_, rfl⟩, by simp [intOf]; omega⟩
          rw [List.take_add_one, HQ.out] at ho
          rcases List.mem_append.1 ho with ho | ho
          · exact HF.out o ho
          · simp at ho; subst ho; exact hs
        · have hs2 : 1000 < (q.bs.length : Int) := by omega
          have hfalse : fewB os = false := decide_eq_false fun hh => hs (hh.2 q (List.mem_of_getElem? HQ.out))
          rw [hfalse] at hR
          go_wp2
      · have h32 : ¬ ((j : Int) < 300) := by omega
        have hfalse : fewB os = false := decide_eq_false fun hh => by omega
        have h200 : ¬ ((os.length : Int) ≤ 200) := by omega
        rw [hfalse] at hR
        clear hfew
        go_wp2
    · have hlt2 : ¬ ((j : Int) < (os.length : Int)) := by omega
      obtain rfl : j = os.length := by omega
      rw [List.take_length] at hfew
      by_cases h2 : os.length ≤ 200
      · have h200 : (os.length : Int) ≤ 200 := by omega
        have htrue : fewB os = true := decide_eq_true ⟨h2, hfew⟩
        rw [htrue] at hR
        clear hfew
        go_wp2
      · have h200 : ¬ ((os.length : Int) ≤ 200) := by omega
        have hfalse : fewB os = false := decide_eq_false fun hh => h2 hh.1
        rw [hfalse] at hR
        clear hfew
        go_wp2
end Go.Proofs.Ytkkambhkfegodaa
