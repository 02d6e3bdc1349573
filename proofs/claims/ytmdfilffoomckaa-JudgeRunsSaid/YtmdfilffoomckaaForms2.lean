/- The reference: which texts are valid, which keys may be. Conditions: none. -/
import Derived.Test.YtmdfilffoomckaaForms
namespace Go.Proofs.Ytmdfilffoomckaa
open Go.ChangeShapes Go.WideShapes Go.ChangeAt Go.RowKit

def byteN (s : ByteArray) (i : Nat) : Nat := if h : i < s.size then (s[i]'h).toNat else 0
theorem byteN_eq (s : ByteArray) (i : Nat) (h : i < s.size) : byteN s i = (s[i]'h).toNat := dif_pos h
def badAt (s : ByteArray) (pos : Nat) : Prop := (Utf8.decode s pos).1 = 65533 ∧ (s.size < pos + 3 ∨ byteN s pos ≠ 239 ∨ byteN s (pos + 1) ≠ 191 ∨ byteN s (pos + 2) ≠ 189)
instance (s : ByteArray) (pos : Nat) : Decidable (badAt s pos) := by unfold badAt; infer_instance
def validN (s : ByteArray) : Nat → Nat → Bool
  | 0, _ => true
  | b + 1, pos => if pos < s.size then (if badAt s pos then false else validN s b (pos + (Utf8.decode s pos).2)) else true
theorem validN_end (s : ByteArray) (b pos : Nat) (h : ¬ pos < s.size) : validN s b pos = true := by
  cases b with
  | zero => rfl
  | succ b => simp [validN, h]

set_option maxRecDepth 1000000 in
theorem c45 (s : ByteArray) (hs : s.size ≤ maxLen) (w : World) : Calls Try.prog 45 #[.string s] w fun e w' => e = .returned (.bool (validN s s.size 0)) ∧ Below w.heap.size w w' := by
  refine gen fun R hR => ?_
  unfold maxLen at hs
  have hb : ∀ pos, Below w.heap.size w (w.iter s pos) := fun pos => (Below.refl _ _).alloc (Nat.le_refl _) _
  have HB := Lib.hid hb
  clear hb
  go_enter Try.func45, Try.ntmps45
  go_wp2
  go_loopw [] (fun w' => ∃ (pos b : Nat), w' = w.iter s pos ∧ validN s b pos = validN s s.size 0 ∧ s.size ≤ pos + b) (fun w' => s.size - w'.iterPos w.heap.size)
  case atStart => exact ⟨0, s.size, rfl, rfl, by omega⟩
  case round =>
    obtain ⟨pos, b, rfl, hc, hbp⟩ := hrel
    by_cases hp : pos < s.size
    · have hnx : ∀ ty, (Instr.next (.pointer (some ⟨w.heap.size, 0, none⟩)) true ty).run Try.prog (w.iter s pos) = _ := fun ty => run_next_any w s pos ty hp
      have hpI : (pos : Int) < (s.size : Int) := by omega
      have HC := Lib.hid hc
      have HBP := Lib.hid hbp
      have HP := Lib.hid hp
      clear hc hbp
      go_wp2
      all_goals go_tidy
      all_goals
        try clear hnx
        have e0 := byteN_eq s pos HP.out
        have e1 := byteN_eq s (pos + 1)
        have e2 := byteN_eq s (pos + 2)
        have hbo := HBP.out
        first
        | (have hbad : badAt s pos := by
             unfold badAt
             simp only [bne_iff_ne, ne_eq, Bool.or_eq_true, decide_eq_true_eq] at *
             grind
           refine ⟨?_, HB.out _⟩
           rw [← HC.out]
           cases b with
           | zero => omega
           | succ b => simp [validN, hp, hbad])
        | (have hbad : ¬ badAt s pos := by
             unfold badAt
             simp only [bne_iff_ne, ne_eq, Bool.or_eq_true, decide_eq_true_eq] at *
             grind
           have hwd := width_pos s pos HP.out
           cases b with
           | zero => omega
           | succ b =>
             refine ⟨⟨pos + (Utf8.decode s pos).2, b, rfl, ?_, by omega⟩, by simp; omega⟩
             rw [← HC.out]
             simp [validN, hp, hbad])
    · have hnx : ∀ ty, (Instr.next (.pointer (some ⟨w.heap.size, 0, none⟩)) true ty).run Try.prog (w.iter s pos) = _ := fun ty => run_next_end w s pos ty hp
      go_wp2
      go_tidy
      rw [validN_end s b pos hp] at hc
      rw [← hc]
      exact ⟨rfl, HB.out _⟩

def keyB (n : Nat) : Prop := (97 ≤ n ∧ n ≤ 122) ∨ (48 ≤ n ∧ n ≤ 57)
def KeyOk (s : ByteArray) : Prop := (∀ i, i < s.size → keyB (byteN s i)) ∧ 1 ≤ s.size ∧ s.size ≤ 12
theorem key_next {s : ByteArray} {k : Nat} (h : ∀ i, i < k → keyB (byteN s i)) (hk : keyB (byteN s k)) : ∀ i, i < k + 1 → keyB (byteN s i) := fun i hi => by
  rcases Nat.lt_or_ge i k with h1 | h1
  · exact h i h1
  · obtain rfl : i = k := by omega
    exact hk
set_option maxRecDepth 1000000 in
theorem c37 (s : ByteArray) (hs : s.size ≤ maxLen) (w : World) : Calls Try.prog 37 #[.string s] w fun e w' => (∃ b : Bool, e = .returned (.bool b) ∧ (b = true ↔ KeyOk s)) ∧ w = w' := by
  refine gen fun R hR => ?_
  unfold maxLen at hs
  have yes : KeyOk s → R (.returned (.bool true)) w := fun h => hR _ _ ⟨⟨true, rfl, by simp [h]⟩, rfl⟩
  have no : ¬ KeyOk s → R (.returned (.bool false)) w := fun h => hR _ _ ⟨⟨false, rfl, by simp [h]⟩, rfl⟩
  have YES := Lib.hid yes
  have NO := Lib.hid no
  clear hR yes no
  go_enter Try.func37, Try.ntmps37
  go_wp2
  go_loop [3] (fun i => ∃ k : Nat, k ≤ s.size ∧ i = .int .i64 k ∧ ∀ i, i < k → keyB (byteN s i)) (fun i => s.size - (intOf i).toNat)
  case atStart => exact ⟨0, by omega, rfl, fun i hi => by omega⟩
  case round =>
    obtain ⟨k, hk, rfl, hc⟩ := hrel
    have HC := Lib.hid hc
    clear hc
    rcases Nat.lt_or_ge k s.size with hlt | hge
    · have hkI : (k : Int) < (s.size : Int) := by omega
      have HL := Lib.hid hlt
      go_wp2
      all_goals go_tidy
      all_goals
        have e0 := byteN_eq s k HL.out
        first
        | (have hbad : ¬ keyB (byteN s k) := by
             unfold keyB
             try simp only [Bool.and_eq_true, Bool.or_eq_true, decide_eq_true_eq] at *
             grind
           exact NO.out fun h => hbad (h.1 k HL.out))
        | (have hok : keyB (byteN s k) := by
             unfold keyB
             try simp only [Bool.and_eq_true, Bool.or_eq_true, Bool.and_eq_false_iff, Bool.or_eq_false_iff, decide_eq_true_eq, decide_eq_false_iff_not] at *
             grind
           exact ⟨⟨k + 1, by omega, rfl, key_next HC.out hok⟩, by simp [intOf]; omega⟩)
    · have hks : k = s.size := by omega
      have HK := Lib.hid hks
      have hn : ¬ (k : Int) < (s.size : Int) := by omega
      by_cases h1 : 1 ≤ s.size ∧ s.size ≤ 12
      · have g1 : (1 : Int) ≤ (s.size : Int) := by omega
        have g2 : (s.size : Int) ≤ 12 := by omega
        go_wp2
        go_tidy
        exact YES.out ⟨fun i hi => HC.out i (by omega), h1⟩
      · go_wp2
        all_goals go_tidy
        all_goals
          have hf := NO.out fun h => h1 h.2
          first
          | exact hf
          | (have : ¬ (s.size : Int) ≤ 12 := by omega
             simp only [decide_eq_false this, Bool.and_false]; exact hf)
          | (have : ¬ (1 : Int) ≤ (s.size : Int) := by omega
             simp only [decide_eq_false this, Bool.false_and]; exact hf)
end Go.Proofs.Ytmdfilffoomckaa
