/- What the functions of package num, and of its reference, that take numbers compute. Conditions: a uint64 argument fits its kind. -/
import Derived.Test.YtkngfhnjimdcjaaRows
import Derived.Test.YtkngfhnjimdcjaaMath
import Derived.WalkKit
import Derived.ProofKit
import Derived.OpenShut
import Derived.WalkLawsBesides
import Derived.WalkSpells
import Derived.Lib.Hide
namespace Go.Proofs.Ytkngfhnjimdcjaa
open Go.ChangeShapes Go.WideShapes Go.ChangeAt Go.RowKit

theorem r30 (n : Nat) (w : World) : Sem.run Try.prog (callFunc 30 #[.float .f64 n]) w = .ok (.value (.int .u64 n)) w := by kernel_rfl
theorem r24 (n : Int) (w : World) : Sem.run Try.prog (callFunc 24 #[.int .u64 n]) w = .ok (.value (.float .f64 n.toNat)) w := by kernel_rfl
theorem rneg (n : Nat) (w : World) : Sem.run Try.prog (Op.unary .neg (.float .f64 n)) w = .ok (.float .f64 (Op.negFloat .f64 n)) w := rfl
attribute [local go_sem] r30 r24 rneg

theorem c25 (n : Nat) (w : World) (h : n < 18446744073709551616) : Calls Try.prog 25 #[.float .f64 n] w fun e w' => e = .returned (.bool (isNanN n)) ∧ w = w' := by
  go_enter Try.func25, Try.ntmps25
  go_wp2
  go_ret
  exact ⟨by rw [← not_self n h]; rfl, rfl⟩
theorem wrap_sign (n : Nat) (h : n < 18446744073709551616) : decide (wrap64 (n : Int) < 0) = minusN n := by
  unfold minusN half
  rw [Bool.eq_iff_iff]
  simp only [decide_eq_true_eq]
  unfold wrap64
  omega
theorem c27 (n : Nat) (w : World) (h : n < 18446744073709551616) : Calls Try.prog 27 #[.float .f64 n] w fun e w' => e = .returned (.bool (minusN n)) ∧ w = w' := by
  go_enter Try.func27, Try.ntmps27
  go_wp2
  go_ret
  exact ⟨by rw [← wrap_sign n h]; rfl, rfl⟩
theorem c26m (n : Nat) (w : World) (h : n < 18446744073709551616) : Calls Try.prog 26 #[.float .f64 n, .int .i64 (-1)] w fun e w' => e = .returned (.bool (decide (kindN n = 1))) ∧ w = w' := by
  go_enter Try.func26, Try.ntmps26
  go_wp2
  go_ret
  exact ⟨by rw [← inf_neg n h]; rfl, rfl⟩
theorem c26p (n : Nat) (w : World) (h : n < 18446744073709551616) : Calls Try.prog 26 #[.float .f64 n, .int .i64 1] w fun e w' => e = .returned (.bool (decide (kindN n = 6))) ∧ w = w' := by
  go_enter Try.func26, Try.ntmps26
  go_wp2
  go_ret
  exact ⟨by rw [← inf_pos n h]; rfl, rfl⟩
theorem ret_true {b : Bool} (h : b = true) : Ending.returned (.bool b) = Ending.returned (.bool true) := by rw [h]
theorem order_sign (a b : Nat) : (orderN a b < 0 ↔ keyN a < keyN b) ∧ (orderN a b = 0 ↔ keyN a = keyN b) ∧ (0 < orderN a b ↔ keyN b < keyN a) ∧ (-1 ≤ orderN a b ∧ orderN a b ≤ 1) := by
  unfold orderN cmpN
  split
  · omega
  · split <;> omega
theorem order_anti (a b : Nat) : orderN a b = - orderN b a := by
  unfold orderN cmpN
  rcases Nat.lt_trichotomy (keyN a) (keyN b) with h | h | h
  · simp [h, show ¬ keyN b < keyN a by omega]
  · simp [show ¬ keyN b < keyN a by omega, show ¬ keyN a < keyN b by omega]
  · simp [h, show ¬ keyN a < keyN b by omega]
theorem canon_lt (n : Nat) (h : n < 18446744073709551616) : canonN n < 18446744073709551616 := by unfold canonN; split <;> omega
theorem canon_canon (n : Nat) : canonN (canonN n) = canonN n := by
  cases h : isNanN n
  · rw [canon_of_not n h, canon_of_not n h]
  · rw [canon_of_nan n h]; rfl
theorem key_canon (a b : Nat) (ha : a < 18446744073709551616) (hb : b < 18446744073709551616) : keyN a = keyN b ↔ canonN a = canonN b := by
  have hna : isNanN a = decide (infR < rungN a) := rfl
  have hnb : isNanN b = decide (infR < rungN b) := rfl
  have c0 : isNanN 9221120237041090560 = true := by decide
  cases h1 : isNanN a <;> cases h2 : isNanN b
  · rw [canon_of_not a h1, canon_of_not b h2]
    unfold keyN
    rw [h1, h2]
    unfold minusN half
    simp only [Bool.false_eq_true, if_false, decide_eq_true_eq]
    split <;> split <;> omega
  · rw [canon_of_not a h1, canon_of_nan b h2]
    have : a ≠ 9221120237041090560 := fun e => by rw [e, c0] at h1; cases h1
    unfold keyN
    rw [h1, h2]
    unfold minusN half
    simp only [Bool.false_eq_true, if_false, decide_eq_true_eq, if_true]
    have hx : ¬ infR < rungN a := by rw [hna] at h1; simpa using h1
    unfold infR rungN half at hx
    split <;> omega
  · rw [canon_of_nan a h1, canon_of_not b h2]
    have : b ≠ 9221120237041090560 := fun e => by rw [e, c0] at h2; cases h2
    unfold keyN
    rw [h1, h2]
    unfold minusN half
    simp only [Bool.false_eq_true, if_false, decide_eq_true_eq, if_true]
    have hx : ¬ infR < rungN b := by rw [hnb] at h2; simpa using h2
    unfold infR rungN half at hx
    split <;> omega
  · rw [canon_of_nan a h1, canon_of_nan b h2]
    unfold keyN
    rw [h1, h2]
    simp
theorem kind_range (b : Nat) : kindN b = 0 ∨ kindN b = 1 ∨ kindN b = 2 ∨ kindN b = 3 ∨ kindN b = 4 ∨ kindN b = 5 ∨ kindN b = 6 := by
  have := kind_cases b; omega
theorem gen {P : Program} {f : FuncId} {args : Array Value} {w : World} {S : Ending → World → Prop}
    (h : ∀ R : Ending → World → Prop, (∀ e w', S e w' → R e w') → Calls P f args w R) : Calls P f args w S := h S (fun _ _ h => h)

theorem c9 (a : Int) (w : World) (h : U64 a) : Calls Try.prog 9 #[.int .u64 a] w fun e w' => e = .returned (.int .i64 (kindN a.toNat)) ∧ w = w' := by
  have hl := Lib.hid h.lt
  refine gen fun R hR => ?_
  clear h
  go_enter Try.func9, Try.ntmps9
  go_wp2_with (first | (go_at_call 25; (with_reducible refine (c25 _ _ hl.out).mono ?_); rintro e w' ⟨rfl, rfl⟩) | (go_at_call 26; first | ((with_reducible refine (c26m _ _ hl.out).mono ?_); rintro e w' ⟨rfl, rfl⟩) | ((with_reducible refine (c26p _ _ hl.out).mono ?_); rintro e w' ⟨rfl, rfl⟩)) | (go_at_call 27; (with_reducible refine (c27 _ _ hl.out).mono ?_); rintro e w' ⟨rfl, rfl⟩))
  all_goals
    have g1 := lt_zero _ hl.out
    have g2 := eq_zero _ hl.out
    have g3 := nan_kind a.toNat
    have g4 := minus_kind a.toNat
    have g5 := kind_range a.toNat
    clear hl
    rcases g5 with g5 | g5 | g5 | g5 | g5 | g5 | g5 <;> simp_all
theorem c11 (a : Int) (w : World) (h : U64 a) : Calls Try.prog 11 #[.int .u64 a] w fun e w' => e = .returned (.int .u64 (canonN a.toNat : Nat)) ∧ w = w' := by
  have hl := Lib.hid h.lt
  have hc := Lib.hid h.cast
  refine gen fun R hR => ?_
  clear h
  go_enter Try.func11, Try.ntmps11
  go_wp2_with (first | (go_at_call 25; (with_reducible refine (c25 _ _ hl.out).mono ?_); rintro e w' ⟨rfl, rfl⟩))
  all_goals have h := ‹isNanN a.toNat = _›
  · rw [canon_of_nan _ h]; rfl
  · rw [canon_of_not _ h, hc.out]
theorem bor (a : Int) (h : U64 a) (h1 : a < 9223372036854775808) : bits .or .u64 a 9223372036854775808 = a + 9223372036854775808 := by
  unfold U64 at h
  have e := u64_or_nat a.toNat 9223372036854775808 (by omega) (by omega)
  have hc : ((a.toNat : Nat) : Int) = a := by omega
  rw [hc] at e
  have e2 : a.toNat ||| 9223372036854775808 = a.toNat + 9223372036854775808 := by
    have := Nat.two_pow_add_eq_or_of_lt (i := 63) (b := a.toNat) (by omega) 1
    rw [Nat.or_comm]; simp at this; omega
  rw [e2] at e
  rw [show ((9223372036854775808 : Nat) : Int) = 9223372036854775808 from rfl] at e
  rw [e]; omega
theorem bnot (a : Int) (h : U64 a) : bits .xor .u64 18446744073709551615 a = 18446744073709551615 - a := by
  unfold U64 at h
  have e := u64_xor_nat 18446744073709551615 a.toNat (by omega) (by omega)
  have hc : ((a.toNat : Nat) : Int) = a := by omega
  rw [hc] at e
  rw [show ((18446744073709551615 : Nat) : Int) = 18446744073709551615 from rfl] at e
  rw [e]
  have e2 : 18446744073709551615 ^^^ a.toNat = 18446744073709551615 - a.toNat := by
    have : (18446744073709551615 : Nat) = 2 ^ 64 - 1 := by decide
    rw [this]
    apply Nat.eq_of_testBit_eq
    intro i
    rw [Nat.testBit_xor, Nat.testBit_two_pow_sub_one, show 2 ^ 64 - 1 - a.toNat = 2 ^ 64 - (a.toNat + 1) from by omega, Nat.testBit_two_pow_sub_succ (by omega)]
    by_cases hi : i < 64
    · simp [hi]
    · have : a.toNat.testBit i = false := Nat.testBit_lt_two_pow (Nat.lt_of_lt_of_le (m := 2 ^ 64) (by omega) (Nat.pow_le_pow_right (by decide) (by omega)))
      simp [hi, this]
  rw [e2]; omega
theorem c13 (a : Int) (w : World) (h : U64 a) : Calls Try.prog 13 #[.int .u64 a] w fun e w' => e = .returned (.int .u64 (keyN a.toNat : Nat)) ∧ w = w' := by
  have hl := Lib.hid h.lt
  have hc := Lib.hid h
  refine gen fun R hR => ?_
  clear h
  have hs : IntKind.u64.signed = false := rfl
  have hm : IntKind.u64.max = 18446744073709551615 := rfl
  go_enter Try.func13, Try.ntmps13
  go_wp2_with (first | (go_at_call 25; (with_reducible refine (c25 _ _ hl.out).mono ?_); rintro e w' ⟨rfl, rfl⟩))
  all_goals
    have hn := ‹isNanN a.toNat = _›
    have hu := hc.out
    unfold keyN
    rw [hn]
  · rfl
  · have ht := ‹(a / 9223372036854775808 == 1) = true›
    have hd : minusN a.toNat = true := by unfold U64 at hu; unfold minusN half; simp at ht ⊢; omega
    rw [hd, bnot a hu]; unfold U64 at hu; simp; omega
  · have ht := ‹(a / 9223372036854775808 == 1) = false›
    have hd : minusN a.toNat = false := by unfold U64 at hu; unfold minusN half; simp at ht ⊢; omega
    have hq : a < 9223372036854775808 := by unfold U64 at hu; simp at ht; omega
    rw [hd, bor a hu hq]; unfold U64 at hu; unfold half; simp; omega
theorem c29 (a b : Int) (w : World) (ha : U64 a) (hb : U64 b) : Calls Try.prog 29 #[.int .u64 a, .int .u64 b] w fun e w' => e = .returned (.int .i64 (cmpN a.toNat b.toNat)) ∧ w = w' := by
  have hc := Lib.hid ha
  have hd := Lib.hid hb
  refine gen fun R hR => ?_
  clear ha hb
  go_enter Try.func29, Try.ntmps29
  go_wp2
  all_goals
    have hu := hc.out
    have hv := hd.out
    unfold U64 at hu hv
    unfold cmpN
  · rw [if_pos (by omega)]
  · rw [if_neg (by omega), if_pos (by omega)]
  · rw [if_neg (by omega), if_neg (by omega)]
theorem key_lt (n : Nat) (h : n < 18446744073709551616) : keyN n < 18446744073709551616 := by
  unfold keyN
  split
  · omega
  · split
    · omega
    · rename_i hm; unfold minusN half at hm; unfold half; simp at hm; omega
theorem c15 (a b : Int) (w : World) (ha : U64 a) (hb : U64 b) : Calls Try.prog 15 #[.int .u64 a, .int .u64 b] w fun e w' => e = .returned (.int .i64 (orderN a.toNat b.toNat)) ∧ w = w' := by
  have hc := Lib.hid ha
  have hd := Lib.hid hb
  have he := Lib.hid (U64.of _ (key_lt _ ha.lt))
  have hf := Lib.hid (U64.of _ (key_lt _ hb.lt))
  refine gen fun R hR => ?_
  clear ha hb
  go_enter Try.func15, Try.ntmps15
  go_wp2_with (first | (go_at_call 13; first | ((with_reducible refine (c13 a _ hc.out).mono ?_); rintro e w' ⟨rfl, rfl⟩) | ((with_reducible refine (c13 b _ hd.out).mono ?_); rintro e w' ⟨rfl, rfl⟩)) | (go_at_call 29; (with_reducible refine (c29 _ _ _ he.out hf.out).mono ?_); rintro e w' ⟨rfl, rfl⟩))
  all_goals rfl
theorem land (a : Int) (h : U64 a) (k m : Nat) (hk : m = 2 ^ k - 1) (hk2 : k ≤ 64) : bits .and .u64 a (m : Int) = a % ((m : Int) + 1) := by
  unfold U64 at h
  have hp : 2 ^ k ≤ 2 ^ 64 := Nat.pow_le_pow_right (by decide) hk2
  have h1 : 0 < 2 ^ k := Nat.two_pow_pos _
  have e := u64_and_nat a.toNat m (by omega) (by omega)
  have hc : ((a.toNat : Nat) : Int) = a := by omega
  rw [hc] at e
  rw [e, hk, Nat.and_two_pow_sub_one_eq_mod]
  have : ((2 ^ k - 1 : Nat) : Int) + 1 = ((2 ^ k : Nat) : Int) := by omega
  rw [this, Int.natCast_emod, hc]
def expI (a : Int) : Int := a / 4503599627370496 % 2048
def fracI (a : Int) : Int := a % 4503599627370496
theorem c28 (a : Int) (w : World) (h : U64 a) : Calls Try.prog 28 #[.int .u64 a] w fun e w' => e = .returned (.tuple #[.bool (minusN a.toNat), .int .u64 (expI a), .int .u64 (fracI a)]) ∧ w = w' := by
  have hc := Lib.hid h
  refine gen fun R hR => ?_
  clear h
  go_enter Try.func28, Try.ntmps28
  go_wp2
  go_ret3
  refine hR _ _ ⟨?_, rfl⟩
  have hu := hc.out
  have hv : U64 (a / 4503599627370496) := by unfold U64 at *; omega
  have e1 := land a hu 52 4503599627370495 (by decide) (by decide)
  have e2 := land _ hv 11 2047 (by decide) (by decide)
  have e3 : decide (9223372036854775808 ≤ a) = minusN a.toNat := by unfold minusN half; unfold U64 at hu; rw [Bool.eq_iff_iff]; simp; omega
  show Ending.returned (.tuple #[.bool (decide (9223372036854775808 ≤ a)), .int .u64 (bits .and .u64 (a / 4503599627370496) 2047), .int .u64 (bits .and .u64 a 4503599627370495)]) = _
  rw [e3]
  have e1' : bits .and .u64 a 4503599627370495 = fracI a := e1
  have e2' : bits .and .u64 (a / 4503599627370496) 2047 = expI a := e2
  rw [e1', e2']
theorem parts_kind (a : Int) (h : U64 a) : kindN a.toNat =
    if expI a = 2047 ∧ fracI a ≠ 0 then 0 else if expI a = 2047 then (if minusN a.toNat then 1 else 6)
    else if expI a = 0 ∧ fracI a = 0 then (if minusN a.toNat then 3 else 4) else if minusN a.toNat then 2 else 5 := by
  unfold U64 at h
  unfold expI fracI
  unfold kindN
  have e1 : infR < rungN a.toNat ↔ (a / 4503599627370496 % 2048 = 2047 ∧ a % 4503599627370496 ≠ 0) := by unfold infR rungN half; omega
  have e2 : rungN a.toNat = infR ↔ (a / 4503599627370496 % 2048 = 2047 ∧ a % 4503599627370496 = 0) := by unfold infR rungN half; omega
  have e3 : rungN a.toNat = 0 ↔ (a / 4503599627370496 % 2048 = 0 ∧ a % 4503599627370496 = 0) := by unfold rungN half; omega
  simp only [e1, e2, e3]
  by_cases h1 : a / 4503599627370496 % 2048 = 2047
  · by_cases h2 : a % 4503599627370496 = 0
    · simp [h1, h2]
    · simp [h1, h2]
  · simp [h1]
theorem c10 (a : Int) (w : World) (h : U64 a) : Calls Try.prog 10 #[.int .u64 a] w fun e w' => e = .returned (.int .i64 (kindN a.toNat)) ∧ w = w' := by
  have hc := Lib.hid h
  refine gen fun R hR => ?_
  clear h
  go_enter Try.func10, Try.ntmps10
  go_wp2_with (first | (go_at_call 28; (with_reducible refine (c28 _ _ hc.out).mono ?_); rintro e w' ⟨rfl, rfl⟩))
  all_goals
    go_tidy
    rw [parts_kind a hc.out]
    simp_all
theorem c12 (a : Int) (w : World) (h : U64 a) : Calls Try.prog 12 #[.int .u64 a] w fun e w' => e = .returned (.int .u64 (canonN a.toNat : Nat)) ∧ w = w' := by
  have hc := Lib.hid h
  refine gen fun R hR => ?_
  clear h
  go_enter Try.func12, Try.ntmps12
  go_wp2_with (first | (go_at_call 10; (with_reducible refine (c10 _ _ hc.out).mono ?_); rintro e w' ⟨rfl, rfl⟩))
  all_goals
    go_tidy
    have g := nan_kind a.toNat
  · rw [canon_of_nan _ (by simp_all)]; rfl
  · rw [canon_of_not _ (by simp_all), hc.out.cast]
theorem c14 (a : Int) (w : World) (h : U64 a) : Calls Try.prog 14 #[.int .u64 a] w fun e w' => e = .returned (.int .u64 (keyN a.toNat : Nat)) ∧ w = w' := by
  have hc := Lib.hid h
  have w1 : minusN a.toNat = true → IntKind.u64.wrap (18446744073709551615 - a) = 18446744073709551615 - a := by
    intro _; rw [IntKind.wrap_u64]; unfold U64 at h; omega
  have w2 : minusN a.toNat = false → IntKind.u64.wrap (a + 9223372036854775808) = a + 9223372036854775808 := by
    intro hm; rw [IntKind.wrap_u64]; unfold U64 at h; unfold minusN half at hm; simp at hm; omega
  have v1 := Lib.hid w1
  have v2 := Lib.hid w2
  refine gen fun R hR => ?_
  clear h w1 w2
  go_enter Try.func14, Try.ntmps14
  go_wp2_with (first | (go_at_call 10; (with_reducible refine (c10 _ _ hc.out).mono ?_); rintro e w' ⟨rfl, rfl⟩) | (go_at_call 28; (with_reducible refine (c28 _ _ hc.out).mono ?_); rintro e w' ⟨rfl, rfl⟩))
  all_goals
    go_tidy
    have g := nan_kind a.toNat
    have hu := hc.out
  · have : isNanN a.toNat = true := by simp_all
    unfold keyN; rw [this]; rfl
  · have hn : isNanN a.toNat = false := by simp_all
    have hm := ‹minusN a.toNat = _›
    unfold keyN; rw [hn, hm]
    rw [v1.out hm]; unfold U64 at hu; simp; omega
  · have hn : isNanN a.toNat = false := by simp_all
    have hm := ‹minusN a.toNat = _›
    unfold keyN; rw [hn, hm]
    rw [v2.out hm]; unfold U64 at hu; unfold half; simp; omega
/-- The reference's order, as it reckons it. -/
theorem order_parts (a b : Int) (ha : U64 a) (hb : U64 b) : orderN a.toNat b.toNat =
    if kindN a.toNat < kindN b.toNat then -1 else if kindN b.toNat < kindN a.toNat then 1
    else if kindN a.toNat = 0 ∨ a % 9223372036854775808 = b % 9223372036854775808 then 0
    else if decide (a % 9223372036854775808 < b % 9223372036854775808) = decide (kindN a.toNat = 5) then -1 else 1 := by
  have ka := kind_cases a.toNat
  have kb := kind_cases b.toNat
  have na := nan_kind a.toNat
  have nb := nan_kind b.toNat
  have hi : infR = 9218868437227405312 := rfl
  have ma : minusN a.toNat = true ↔ 9223372036854775808 ≤ a := by unfold minusN half; unfold U64 at ha; simp; omega
  have mb : minusN b.toNat = true ↔ 9223372036854775808 ≤ b := by unfold minusN half; unfold U64 at hb; simp; omega
  have ra : (rungN a.toNat : Int) = a % 9223372036854775808 := by unfold rungN half; unfold U64 at ha; omega
  have rb : (rungN b.toNat : Int) = b % 9223372036854775808 := by unfold rungN half; unfold U64 at hb; omega
  unfold U64 at ha hb
  unfold orderN cmpN keyN
  rw [na, nb]
  generalize kindN a.toNat = p at *
  generalize kindN b.toNat = q at *
  generalize rungN a.toNat = x at *
  generalize rungN b.toNat = y at *
  generalize minusN a.toNat = s at *
  generalize minusN b.toNat = t at *
  unfold half
  clear na nb
  rcases ka with ⟨h1, h2⟩ | ⟨h1, h2, h3⟩ | ⟨h1, h2, h3⟩ | ⟨h1, h2, h3⟩ | ⟨h1, h2, h3⟩ | ⟨h1, h0, h2, h3⟩ | ⟨h1, h0, h2, h3⟩ <;>
  rcases kb with ⟨g1, g2⟩ | ⟨g1, g2, g3⟩ | ⟨g1, g2, g3⟩ | ⟨g1, g2, g3⟩ | ⟨g1, g2, g3⟩ | ⟨g1, g0, g2, g3⟩ | ⟨g1, g0, g2, g3⟩ <;>
  (subst p; subst q; (try subst s); (try subst t); (try simp at ma); (try simp at mb); (try simp) <;> ((repeat' split) <;> first | rfl | omega))
theorem c17 (a b : Int) (w : World) (ha : U64 a) (hb : U64 b) : Calls Try.prog 17 #[.int .u64 a, .int .u64 b] w fun e w' => e = .returned (.int .i64 (orderN a.toNat b.toNat)) ∧ w = w' := by
  have hc := Lib.hid ha
  have hd := Lib.hid hb
  have e1 : bits .and .u64 a 9223372036854775807 = a % 9223372036854775808 := land a ha 63 9223372036854775807 (by decide) (by decide)
  have e2 : bits .and .u64 b 9223372036854775807 = b % 9223372036854775808 := land b hb 63 9223372036854775807 (by decide) (by decide)
  have e3 := Lib.hid (order_parts a b ha hb)
  refine gen fun R hR => ?_
  clear ha hb
  go_enter Try.func17, Try.ntmps17
  go_wp2_with (first | (go_at_call 10; first | ((with_reducible refine (c10 a _ hc.out).mono ?_); rintro e w' ⟨rfl, rfl⟩) | ((with_reducible refine (c10 b _ hd.out).mono ?_); rintro e w' ⟨rfl, rfl⟩)))
  all_goals
    go_tidy
    rw [e3.out]
    clear e1 e2 e3
    repeat' split
    all_goals first | rfl | (exfalso; omega) | (exfalso; simp_all; done) | (exfalso; by_cases u : a % 9223372036854775808 < b % 9223372036854775808 <;> by_cases v : kindN a.toNat = 5 <;> simp_all)
/-- What a program that does nothing does not answer. -/
theorem c16 (w : World) : Calls Try.prog 16 #[] w fun e w' => e = .returned (.bool true) ∧ w = w' := by
  have hc : U64 0 := by unfold U64; omega
  have hd : U64 9223372036854775808 := by unfold U64; omega
  have k0 : kindN (0 : Int).toNat = 4 := by decide
  have o0 : orderN (9223372036854775808 : Int).toNat (0 : Int).toNat = -1 := by decide
  have C1 := fun w => c9 0 w hc
  have C2 := fun w => c15 _ _ w hd hc
  rw [k0] at C1
  rw [o0] at C2
  have D1 := Lib.hid C1
  have D2 := Lib.hid C2
  clear C1 C2 hc hd k0 o0
  refine gen fun R hR => ?_
  go_enter Try.func16, Try.ntmps16
  go_wp2_with (first | (go_at_call 9; ((with_reducible refine (D1.out _).mono ?_); rintro e w' ⟨rfl, rfl⟩)) | (go_at_call 15; ((with_reducible refine (D2.out _).mono ?_); rintro e w' ⟨rfl, rfl⟩)))
end Go.Proofs.Ytkngfhnjimdcjaa
