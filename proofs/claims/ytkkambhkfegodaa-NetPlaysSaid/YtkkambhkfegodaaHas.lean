/- Whether a packet is there. Conditions: each law's own. -/
import Derived.Test.YtkkambhkfegodaaAwake
namespace Go.Proofs.Ytkkambhkfegodaa
open Go.ChangeShapes Go.WideShapes Go.ChangeAt Go.RowKit

theorem MapAt.drewN {w : World} {r : Nat} {l : Ents} {clock : Nat} (h : MapAt encL w r l clock) (n : Nat) : MapAt encL (w.drewN n) r l clock := h
set_option maxHeartbeats 1000000 in
theorem c24 {w : World} {x : Nat} {s : NS} {B : Key → List (List Int)} {Z : Nat → Prop} {N : Nat} (h : NetAt w x s B Z N) (f t a : Int) :
    Calls Try.prog 24 #[.pointer (some ⟨x, 0, none⟩), .agg #[.int .i64 f, .int .i64 t], .int .i64 a] w fun e w' => e = .returned (.bool (decide (0 ≤ a ∧ a < (B (f, t)).length))) ∧ ∃ q os, w' = Go.Sort.grow (w.drewN q) os := by
  refine gen fun R hR => ?_
  have H := Lib.hid h
  have hx := h.box.lt
  clear h
  go_enter Try.func24, Try.ntmps24
  go_wp2
  generalize hW : (World.alloc _ _) = W1
  have hN1 : NetAt W1 x s B Z N := by rw [← hW]; exact H.out.alloc _
  have hK : VarAt W1 w.heap.size 54 [.int .i64 f, .int .i64 t] := by rw [← hW]; exact VarAt.new w 54 [.int .i64 f, .int .i64 t]
  have e1 := hN1.box.cell (j := 0) (u := .map (some s.r)) rfl
  have e2 := hK.cell (j := 0) (u := .int .i64 f) rfl
  have e3 := hK.cell (j := 1) (u := .int .i64 t) rfl
  obtain ⟨va, cp, xs, hv, -⟩ := hN1.look (f, t)
  have hlk : ∀ n, (Instr.lookup 60 (.map (some s.r)) (.agg #[.int .i64 f, .int .i64 t]) false).run Try.prog (W1.drewN n) = .ok (.slice va (B (f, t)).length cp) (W1.drewN n) := fun n => by rw [look54 (hN1.map.drewN n) f t, hv]
  generalize (B (f, t)).length = L at *
  have HW := Lib.hid hW
  clear hW hN1 hK hv
  by_cases h0 : 0 ≤ a
  · have c1 : decide ((0 : Int) ≤ a) = true := decide_eq_true h0
    go_quiet (fail)
    go_wp2
    refine ⟨by simp [h0], nq, #[.cells #[.int .i64 f, .int .i64 t] 54], ?_⟩
    rw [← HW.out, Go.Sort.alloc_eq_grow]; rfl
  · have c1 : decide ((0 : Int) ≤ a) = false := decide_eq_false h0
    go_quiet (fail)
    go_wp2
    refine ⟨nq, #[.cells #[.int .i64 f, .int .i64 t] 54], ?_⟩
    rw [← HW.out, Go.Sort.alloc_eq_grow]; rfl
/-- Send where the bag is full. -/
theorem c10full {w : World} {x : Nat} {s : NS} {B : Key → List (List Int)} {Z : Nat → Prop} {N : Nat} (h : NetAt w x s B Z N) (f t : Int) (ab : Option Addr) (nb cb : Nat) (hr : 64 ≤ (B (f, t)).length) :
    Calls Try.prog 10 #[.pointer (some ⟨x, 0, none⟩), .int .i64 f, .int .i64 t, .slice ab nb cb] w fun e w' => e = .returned (.bool false) ∧ ∃ q os, w' = Go.Sort.grow (w.drewN q) os := by
  refine gen fun R hR => ?_
  have H := Lib.hid h
  have hx := h.box.lt
  clear h
  go_enter Try.func10, Try.ntmps10
  go_wp2
  generalize hW : (World.alloc _ _) = W1
  have hN1 : NetAt W1 x s B Z N := by rw [← hW]; exact H.out.alloc _
  have hK : VarAt W1 w.heap.size 54 [.int .i64 f, .int .i64 t] := by rw [← hW]; exact VarAt.new w 54 [.int .i64 f, .int .i64 t]
  have e1 := hN1.box.cell (j := 0) (u := .map (some s.r)) rfl
  have e2 := hK.cell (j := 0) (u := .int .i64 f) rfl
  have e3 := hK.cell (j := 1) (u := .int .i64 t) rfl
  obtain ⟨va, cp, xs, hv, -⟩ := hN1.look (f, t)
  have hlk : ∀ n, (Instr.lookup 60 (.map (some s.r)) (.agg #[.int .i64 f, .int .i64 t]) false).run Try.prog (W1.drewN n) = .ok (.slice va (B (f, t)).length cp) (W1.drewN n) := fun n => by rw [look54 (hN1.map.drewN n) f t, hv]
  generalize (B (f, t)).length = L at *
  have HW := Lib.hid hW
  have h64 : (64 : Int) ≤ (L : Int) := by omega
  clear hW hN1 hK hv
  go_quiet (fail)
  go_wp2
  refine ⟨rfl, nq, #[.cells #[.int .i64 f, .int .i64 t] 54], ?_⟩
  rw [← HW.out, Go.Sort.alloc_eq_grow]; rfl
end Go.Proofs.Ytkkambhkfegodaa
