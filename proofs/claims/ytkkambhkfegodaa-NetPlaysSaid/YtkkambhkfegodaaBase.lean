/- The base of the network: links as keys; New; Clone of a packet. Conditions: each law's own. -/
import Derived.Test.YtkkambhkfegodaaRows
import Derived.Test.YtkkambhkfegodaaMaps
import Derived.Test.YtkkambhkfegodaaTails
import Derived.Test.YtkkambhkfegodaaLists
import Derived.Laws.StructEq
import Derived.Deep.RegionHeld3
namespace Go.Proofs.Ytkkambhkfegodaa
open Go.ChangeShapes Go.WideShapes Go.ChangeAt Go.RowKit

def encL (k : Int × Int) : Array Value := #[.int .i64 k.1, .int .i64 k.2]
theorem equal54 (a b : Int × Int) (w : World) : (Op.equal 54 (.agg (encL a)) (.agg (encL b))).run Try.prog w = .ok (decide (a = b)) w := by
  have hS : Try.prog.underlying 54 = some (.struct (Try.prog.fieldsOf 54)) := by kernel_rfl
  have hp : Try.prog.stoodInHeld 54 = false := by kernel_rfl
  have h0 : Op.equal 54 (.agg (encL a)) (.agg (encL b)) = Op.equalIn (9999 + 1) 54 (.agg (encL a)) (.agg (encL b)) := rfl
  rw [h0, run_equalIn_agg w 9999 54 _ _ hS hp]
  simp only [Program.fieldsOf, Try.underlying54, encL]
  go_simp
  obtain ⟨a1, a2⟩ := a
  obtain ⟨b1, b2⟩ := b
  by_cases h1 : a1 = b1 <;> by_cases h2 : a2 = b2 <;> simp [h1, h2]
theorem law54 : KeyLaw Try.prog 54 encL where
  und := ⟨_, Try.underlying54⟩
  chk := fun e k w => by kernel_rfl
  eq := equal54
  bits := fun a => by
    show Instr.sameBits (9998 + 1 + 1) _ _ = true
    simp [Instr.sameBits, encL]

theorem c9 (w : World) : Calls Try.prog 9 #[] w fun e w' => e = .returned (.pointer (some ⟨w.heap.size + 1, 0, none⟩)) ∧ w' = (w.alloc (.map #[] 0)).alloc (.cells #[.map (some w.heap.size)] 62) := by
  refine gen fun R hR => ?_
  have hmk : ∀ w, (Instr.makeMap 60 none).run Try.prog w = .ok (.map (some w.heap.size)) (w.alloc (.map #[] 0)) := fun _ => rfl
  go_enter Try.func9, Try.ntmps9
  go_wp2

def encB (n : Int) : List Value := [.int .u8 n]
theorem underlying22 : Try.prog.underlying 22 = some (.slice 5) := by kernel_rfl
theorem c23nil (c n : Nat) (w : World) : Calls Try.prog 23 #[.slice none n c] w fun e w' => e = .returned (.slice none 0 0) ∧ w' = w := by
  refine gen fun R hR => ?_
  have q22 : ∀ (w : World) (a : Option Addr) (n c n' c' : Nat), (binOp .eql 22 (.slice a n c) (.slice none n' c')).run Try.prog w = .ok (.bool a.isNone) w := fun w a n c n' c' => Lib.run_eql_slice_nil w _ _ a n c n' c' underlying22
  go_enter Try.func23, Try.ntmps23
  go_wp2
def Cloned (bs : List Int) (w : World) (e : Ending) (w' : World) : Prop := ∃ v', e = .returned v' ∧ RowOf encB 1 w' v' bs ∧ (∀ g, v'.ownBlock = some g → w.heap.size ≤ g ∧ g < w'.heap.size) ∧ Below w.heap.size w w'
theorem flat_len : ∀ l : List Int, (l.flatMap encB).length = l.length * 1
  | [] => rfl
  | x :: l => by have := flat_len l; simp only [List.flatMap_cons, List.length_append, List.length_cons]; simp only [encB, List.length_cons, List.length_nil]; omega
set_option maxHeartbeats 1000000 in
theorem c23some (x : Addr) (n c : Nat) (bs : List Int) (w : World) (h : RowOf encB 1 w (.slice (some x) n c) bs) (hn : n ≤ 1000) : Calls Try.prog 23 #[.slice (some x) n c] w (Cloned bs w) := by
  refine gen (S := Cloned bs w) fun R hR => ?_
  have q22 : ∀ (w : World) (a : Option Addr) (n c n' c' : Nat), (binOp .eql 22 (.slice a n c) (.slice none n' c')).run Try.prog w = .ok (.bool a.isNone) w := fun w a n c n' c' => Lib.run_eql_slice_nil w _ _ a n c n' c' underlying22
  obtain ⟨i0, hi, hz0, hz1, hz2⟩ := info_parts (P := Try.prog) (e := 5) (z := Value.int .u8 0) (size := 1) (bytes := 1) (by kernel_rfl)
  obtain ⟨a', cap', hv, h1, h2, h3⟩ := h
  cases hv
  have H3 := Lib.hid h3
  clear h3
  have hl := flat_len bs
  go_enter Try.func23, Try.ntmps23
  go_wp2_with (at_builtin; refine wpList_append_own _ rfl _ _ 22 rfl w.heap.size 5 i0 (.int .u8 0) 1 1 underlying22 hi hz0 hz1 hz2 rfl (by decide) _ _ _ rfl (World.ownsRow_made w #[] 0 (Nat.le_refl _) (Nat.zero_le _) rfl) x bs.length c (bs.flatMap encB) rfl ?qc1 ?qc2 ?qc3 ?qc4 ?qc5 ?qc6 ?_)
  case qc1 => exact hl
  case qc2 =>
    intro j u hj
    have hjl : j < bs.length := by have := (List.getElem?_eq_some_iff.1 hj).1; omega
    obtain ⟨b', o', ha, hlt, hc⟩ := H3.out (by omega)
    cases ha
    rw [Go.WideShapes.add_plain]
    refine Lib.cell?_alloc_some _ ?_
    have hb : bs[j]? = some bs[j] := by rw [List.getElem?_eq_getElem hjl]
    have hf := flatMap_at (enc := encB) (k := 1) (fun _ => rfl) bs j 0 bs[j] (.int .u8 bs[j]) hb rfl
    rw [Nat.mul_one, Nat.add_zero] at hf
    rw [hf] at hj
    have := hc j 0 bs[j] (.int .u8 bs[j]) hb rfl
    rw [Nat.mul_one, Nat.add_zero] at this
    rw [this]; exact hj
  case qc3 =>
    intro u hu
    obtain ⟨x, _, hx⟩ := List.mem_flatMap.1 hu
    simp [encB] at hx; subst hx; rfl
  case qc4 => unfold maxLen; omega
  case qc5 => omega
  case qc6 => simp
  intro v' w1 hown hgrow hnil
  go_wp2
  go_tidy
  have hown' : w1.ownsRow w.heap.size 5 1 v' bs.length (bs.flatMap encB) := by simpa using hown
  refine ⟨v', rfl, RowOf.of_owns (fun _ => rfl) hown' rfl, fun g hg => ?_, ?_⟩
  · obtain ⟨_, ⟨rfl, _⟩ | ⟨g', _, _, rfl, hg', hh', _⟩⟩ := hown'
    · cases hg
    · have : g = g' := by simpa [Value.ownBlock] using hg.symm
      subst this
      exact ⟨by omega, (Array.getElem?_eq_some_iff.1 hh').1⟩
  · exact ((Below.refl _ w).alloc (Nat.le_refl _) _).grown hgrow (by simp) (by intro k hk; simp [Value.ownBlock] at hk; omega)
theorem c23 (v : Value) (bs : List Int) (w : World) (h : RowOf encB 1 w v bs) (hn : bs.length ≤ 1000) : Calls Try.prog 23 #[v] w (Cloned bs w) := by
  obtain ⟨a, cap, rfl, h1, h2, h3⟩ := id h
  cases a with
  | none =>
    have hl : bs = [] := by
      cases bs with
      | nil => rfl
      | cons x l => obtain ⟨b, o, hb, _⟩ := h3 (by simp); cases hb
    subst hl
    refine (c23nil _ _ w).mono ?_
    rintro e w' ⟨rfl, rfl⟩
    exact ⟨.slice none 0 0, rfl, RowOf.nil _ _ _, by simp [Value.ownBlock], Below.refl _ _⟩
  | some x => exact c23some x _ cap bs w h hn
end Go.Proofs.Ytkkambhkfegodaa
