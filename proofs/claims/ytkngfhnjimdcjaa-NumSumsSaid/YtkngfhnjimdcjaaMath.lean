/- Plain facts on float64 words: kinds, keys, the order, sums. No program in sight. Conditions: words below 2^64. -/
import Derived.Laws.FloatArith
import Derived.Laws.BitsAllLaws
namespace Go.Proofs.Ytkngfhnjimdcjaa
open Ieee

def big : Nat := 18446744073709551616
def half : Nat := 9223372036854775808
def infR : Nat := 9218868437227405312
def frac : Nat := 4503599627370496

def minusN (b : Nat) : Bool := decide (half ≤ b)
def rungN (b : Nat) : Nat := b % half

def isNanN (b : Nat) : Bool := decide (infR < rungN b)
def kindN (b : Nat) : Int :=
  if infR < rungN b then 0 else if rungN b = infR then (if minusN b then 1 else 6)
  else if rungN b = 0 then (if minusN b then 3 else 4) else if minusN b then 2 else 5
def canonN (b : Nat) : Nat := if isNanN b then 9221120237041090560 else b
def keyN (b : Nat) : Nat := if isNanN b then 0 else if minusN b then 18446744073709551615 - b else b + half
def cmpN (x y : Nat) : Int := if x < y then -1 else if y < x then 1 else 0
def orderN (a b : Nat) : Int := cmpN (keyN a) (keyN b)

theorem double_sw : double.signWeight = 9223372036854775808 := by decide
theorem double_bin : double.binade = 4503599627370496 := by decide
theorem double_inf : double.infRung = 9218868437227405312 := by decide
theorem double_lp : double.leastPlace = -1074 := by decide

/-- What a word of a double stands for, by cases. -/
theorem read_double (b : Nat) : double.read b =
    if b % 9223372036854775808 < 4503599627370496 then .number (b / 9223372036854775808 % 2 == 1) (b % 9223372036854775808) (-1074)
    else if b % 9223372036854775808 < 9218868437227405312 then
      .number (b / 9223372036854775808 % 2 == 1) (4503599627370496 + b % 9223372036854775808 % 4503599627370496) (-1074 + (b % 9223372036854775808 / 4503599627370496 - 1 : Nat))
    else if b % 9223372036854775808 = 9218868437227405312 then .infinity (b / 9223372036854775808 % 2 == 1)
    else .nan (b / 9223372036854775808 % 2 == 1) (b % 9223372036854775808 - 9218868437227405312) := by
  unfold Format.read
  simp only [double_sw, double_bin, double_inf, double_lp]

theorem minus_of (b : Nat) (h : b < 18446744073709551616) : (b / 9223372036854775808 % 2 == 1) = minusN b := by
  unfold minusN half
  rw [Bool.eq_iff_iff]; simp; omega

/-- The three forms of a word that is no NaN. -/
theorem read_form (b : Nat) (h : b < 18446744073709551616) :
    (infR < rungN b ∧ ∃ s f, double.read b = .nan s f) ∨
    (rungN b = infR ∧ double.read b = .infinity (minusN b)) ∨
    (rungN b < infR ∧ ∃ m i, double.read b = .number (minusN b) m i ∧ m < 9007199254740992 ∧ -1074 ≤ i ∧ i ≤ 971 ∧ (m = 0 ↔ rungN b = 0)) := by
  have hm := minus_of b h
  rw [read_double, hm]
  unfold rungN infR half
  split
  · right; right; exact ⟨by omega, _, _, rfl, by omega, by omega, by omega, Iff.rfl⟩
  · split
    · right; right
      refine ⟨by omega, _, _, rfl, by omega, by omega, by omega, by omega⟩
    · split
      · right; left; exact ⟨by omega, rfl⟩
      · left; exact ⟨by omega, _, _, rfl⟩

theorem order_self (b : Nat) (h : b < 18446744073709551616) : (double.order b b != some .eq) = isNanN b := by
  unfold Format.order isNanN
  rcases read_form b h with ⟨h1, s, f, e⟩ | ⟨h1, e⟩ | ⟨h1, m, i, e, _⟩
  · rw [e]; simp [Datum.order, h1]
  · rw [e]; simp [Datum.order, h1]
  · rw [e]
    have : ¬ infR < rungN b := by omega
    simp [Datum.order, this]

theorem read_zero : double.read 0 = .number false 0 (-1074) := by decide +kernel
theorem read_max : double.read 9218868437227405311 = .number false 9007199254740991 971 := by decide +kernel

theorem signed_zero (s : Bool) (u : Nat) : signed s 0 u = 0 := by unfold signed; cases s <;> simp
theorem signed_pos (m u : Nat) (h : m ≠ 0) : 0 < signed false m u := by
  unfold signed
  have : 0 < m <<< u := by rw [Nat.shiftLeft_eq]; exact Nat.mul_pos (by omega) (Nat.two_pow_pos _)
  simp only [Bool.false_eq_true, if_false]; omega
theorem signed_neg' (m u : Nat) (h : m ≠ 0) : signed true m u < 0 := by
  unfold signed
  have : 0 < m <<< u := by rw [Nat.shiftLeft_eq]; exact Nat.mul_pos (by omega) (Nat.two_pow_pos _)
  simp only [if_true]; omega

theorem cmp_lt {a b : Int} (h : a < b) : compare a b = .lt := by rw [Int.compare_eq_lt]; exact h
theorem cmp_gt {a b : Int} (h : b < a) : compare a b = .gt := by rw [Int.compare_eq_gt]; exact h

/-- How a word stands to zero. -/
theorem order_zero (b : Nat) (h : b < 18446744073709551616) : double.order b 0 =
    if infR < rungN b then none else if rungN b = 0 then some .eq else if minusN b then some .lt else some .gt := by
  unfold Format.order
  rw [read_zero]
  rcases read_form b h with ⟨h1, s, f, e⟩ | ⟨h1, e⟩ | ⟨h1, m, i, e, _, _, _, h0⟩
  · rw [e]; simp [Datum.order, h1]
  · rw [e, h1]; cases minusN b <;> simp [Datum.order, infR]
  · rw [e, if_neg (by omega)]
    simp only [Datum.order, signed_zero]
    by_cases hm : m = 0
    · subst hm; rw [if_pos (h0.1 rfl), signed_zero]; rfl
    · rw [if_neg (fun hh => hm (h0.2 hh))]
      cases hs : minusN b
      · rw [cmp_gt (signed_pos _ _ hm)]; rfl
      · rw [cmp_lt (signed_neg' _ _ hm)]; rfl

theorem signed_le_max (s : Bool) (m : Nat) (i : Int) (hm : m < 9007199254740992) (hi : i ≤ 971) :
    signed s m (i - min i 971).toNat ≤ signed false 9007199254740991 (971 - min i 971).toNat := by
  have e : min i 971 = i := by omega
  rw [e]
  have : (i - i).toNat = 0 := by omega
  rw [this]
  have hp : 9007199254740991 ≤ 9007199254740991 <<< (971 - i).toNat := by
    rw [Nat.shiftLeft_eq]; exact Nat.le_mul_of_pos_right _ (Nat.two_pow_pos _)
  unfold signed
  simp only [Bool.false_eq_true, if_false, Nat.shiftLeft_zero]
  generalize 9007199254740991 <<< (971 - i).toNat = d at *
  cases s
  · simp only [Bool.false_eq_true, if_false]; omega
  · simp only [if_true]; omega

/-- Above the greatest finite word lies plus infinity alone. -/
theorem order_max (b : Nat) (h : b < 18446744073709551616) : (double.order b 9218868437227405311 == some .gt) = (decide (rungN b = infR) && !minusN b) := by
  unfold Format.order
  rw [read_max]
  rcases read_form b h with ⟨h1, s, f, e⟩ | ⟨h1, e⟩ | ⟨h1, m, i, e, hm, _, hi, h0⟩
  · rw [e]
    have : ¬ rungN b = infR := by omega
    simp [Datum.order, this]
  · rw [e, h1]; cases minusN b <;> simp [Datum.order]
  · rw [e]
    have : ¬ rungN b = infR := by omega
    simp only [Datum.order, this, decide_false, Bool.false_and, beq_eq_false_iff_ne, ne_eq, Option.some.injEq]
    rw [Int.compare_eq_gt]
    have := signed_le_max (minusN b) m i hm hi
    omega


def U64 (a : Int) : Prop := 0 ≤ a ∧ a < 18446744073709551616

theorem U64.lt {a : Int} (h : U64 a) : a.toNat < 18446744073709551616 := by unfold U64 at h; omega
theorem U64.cast {a : Int} (h : U64 a) : ((a.toNat : Nat) : Int) = a := by unfold U64 at h; omega
theorem U64.of (n : Nat) (h : n < 18446744073709551616) : U64 (n : Int) := by unfold U64; omega

/-- Turning the sign bit. -/
theorem flip_low (b : Nat) (h : b < 9223372036854775808) : b ^^^ 9223372036854775808 = b + 9223372036854775808 := by
  have e : (9223372036854775808 : Nat) = 2 ^ 63 := by decide
  rw [e] at h ⊢
  apply Nat.eq_of_testBit_eq
  intro i
  rw [Nat.testBit_xor, Nat.testBit_two_pow, Nat.add_comm]
  rcases Nat.lt_trichotomy i 63 with hi | hi | hi
  · rw [Nat.testBit_two_pow_add_gt hi]
    have : ¬ 63 = i := by omega
    simp [this]
  · subst hi
    rw [Nat.testBit_two_pow_add_eq]
    simp
  · have h1 : b.testBit i = false := Nat.testBit_lt_two_pow (Nat.lt_of_lt_of_le h (Nat.pow_le_pow_right (by decide) (by omega)))
    have h2 : (2 ^ 63 + b).testBit i = false := Nat.testBit_lt_two_pow (Nat.lt_of_lt_of_le (m := 2 ^ 64) (by omega) (Nat.pow_le_pow_right (by decide) (by omega)))
    have : ¬ 63 = i := by omega
    rw [h1, h2]; simp [this]

theorem flip_word (b : Nat) (h : b < 18446744073709551616) : b ^^^ 9223372036854775808 = if b < 9223372036854775808 then b + 9223372036854775808 else b - 9223372036854775808 := by
  split
  · rename_i hb; exact flip_low b hb
  · rename_i hb
    have e := flip_low (b - 9223372036854775808) (by omega)
    have e2 : b = (b - 9223372036854775808) ^^^ 9223372036854775808 := by rw [e]; omega
    conv => lhs; rw [e2]
    rw [Nat.xor_assoc, Nat.xor_self, Nat.xor_zero]

theorem kind_cases (b : Nat) :
    (infR < rungN b ∧ kindN b = 0) ∨ (rungN b = infR ∧ minusN b = true ∧ kindN b = 1) ∨ (rungN b = infR ∧ minusN b = false ∧ kindN b = 6) ∨
    (rungN b = 0 ∧ minusN b = true ∧ kindN b = 3) ∨ (rungN b = 0 ∧ minusN b = false ∧ kindN b = 4) ∨
    (0 < rungN b ∧ rungN b < infR ∧ minusN b = true ∧ kindN b = 2) ∨ (0 < rungN b ∧ rungN b < infR ∧ minusN b = false ∧ kindN b = 5) := by
  unfold kindN
  by_cases h1 : infR < rungN b
  · simp [h1]
  · by_cases h2 : rungN b = infR
    · have : ¬ rungN b = 0 := by rw [h2]; decide
      cases minusN b <;> simp [h2]
    · by_cases h3 : rungN b = 0
      · have hi : 0 < infR := by decide
        have hj : ¬ 0 = infR := by decide
        cases minusN b <;> simp [h3, hj]
      · have h4 : 0 < rungN b := by omega
        have h5 : rungN b < infR := by omega
        cases minusN b <;> simp [h1, h2, h3, h4, h5]

theorem inf_pos (b : Nat) (h : b < 18446744073709551616) : (FloatKind.f64.format.order b 9218868437227405311 == some .gt) = decide (kindN b = 6) := by
  show (double.order b 9218868437227405311 == some .gt) = _
  rw [order_max b h]
  have hi : 0 < infR := by decide
  rcases kind_cases b with ⟨h1, h2⟩ | ⟨h1, h2, h3⟩ | ⟨h1, h2, h3⟩ | ⟨h1, h2, h3⟩ | ⟨h1, h2, h3⟩ | ⟨h1, h2, h3, h4⟩ | ⟨h1, h2, h3, h4⟩
  all_goals (try rw [h4]); (try rw [h3]); (try rw [h2])
  · rw [decide_eq_false (by omega : ¬ rungN b = infR)]; rfl
  · simp
  · simp [h1]
  · simp
  · rw [decide_eq_false (by omega : ¬ rungN b = infR)]; rfl
  · simp
  · rw [decide_eq_false (by omega : ¬ rungN b = infR)]; rfl

theorem inf_neg (b : Nat) (h : b < 18446744073709551616) : (FloatKind.f64.format.order (Op.negFloat .f64 b) 9218868437227405311 == some .gt) = decide (kindN b = 1) := by
  show (double.order (Op.negFloat .f64 b) 9218868437227405311 == some .gt) = _
  have e : Op.negFloat .f64 b = if b < 9223372036854775808 then b + 9223372036854775808 else b - 9223372036854775808 := flip_word b h
  have hl : Op.negFloat .f64 b < 18446744073709551616 := by rw [e]; split <;> omega
  have hr : rungN (Op.negFloat .f64 b) = rungN b := by rw [e]; unfold rungN half; split <;> omega
  have hm : minusN (Op.negFloat .f64 b) = !minusN b := by
    rw [e]; unfold minusN half
    split
    · rw [decide_eq_true (by omega), decide_eq_false (by omega)]; rfl
    · rw [decide_eq_false (by omega), decide_eq_true (by omega)]; rfl
  rw [order_max _ hl, hr, hm, Bool.not_not]
  have hi : 0 < infR := by decide
  rcases kind_cases b with ⟨h1, h2⟩ | ⟨h1, h2, h3⟩ | ⟨h1, h2, h3⟩ | ⟨h1, h2, h3⟩ | ⟨h1, h2, h3⟩ | ⟨h1, h2, h3, h4⟩ | ⟨h1, h2, h3, h4⟩
  · rw [decide_eq_false (by omega : ¬ rungN b = infR), h2]; rfl
  · simp [h1, h2, h3]
  · simp [h2, h3]
  · rw [decide_eq_false (by omega : ¬ rungN b = infR), h3]; rfl
  · simp [h2, h3]
  · rw [decide_eq_false (by omega : ¬ rungN b = infR), h4]; rfl
  · simp [h3, h4]

theorem not_self (b : Nat) (h : b < 18446744073709551616) : (FloatKind.f64.format.order b b != some .eq) = isNanN b := order_self b h
theorem order_kind (b : Nat) (h : b < 18446744073709551616) : FloatKind.f64.format.order b 0 =
    if kindN b = 0 then none else if kindN b = 3 ∨ kindN b = 4 then some .eq else if kindN b = 1 ∨ kindN b = 2 then some .lt else some .gt := by
  show double.order b 0 = _
  rw [order_zero b h]
  have hi : 0 < infR := by decide
  rcases kind_cases b with ⟨h1, h2⟩ | ⟨h1, h2, h3⟩ | ⟨h1, h2, h3⟩ | ⟨h1, h2, h3⟩ | ⟨h1, h2, h3⟩ | ⟨h1, h2, h3, h4⟩ | ⟨h1, h2, h3, h4⟩
  · rw [h2, if_pos h1]; rfl
  · rw [h3, h2, if_neg (by omega), if_neg (by omega)]; rfl
  · rw [h3, h2, if_neg (by omega), if_neg (by omega)]; rfl
  · rw [h3, if_neg (by omega), if_pos h1]; rfl
  · rw [h3, if_neg (by omega), if_pos h1]; rfl
  · rw [h4, h3, if_neg (by omega), if_neg (by omega)]; rfl
  · rw [h4, h3, if_neg (by omega), if_neg (by omega)]; rfl
theorem lt_zero (b : Nat) (h : b < 18446744073709551616) : (FloatKind.f64.format.order b 0 == some .lt) = (decide (kindN b = 1) || decide (kindN b = 2)) := by
  rw [order_kind b h]
  rcases kind_cases b with ⟨h1, h2⟩ | ⟨h1, h2, h3⟩ | ⟨h1, h2, h3⟩ | ⟨h1, h2, h3⟩ | ⟨h1, h2, h3⟩ | ⟨h1, h2, h3, h4⟩ | ⟨h1, h2, h3, h4⟩
  · rw [h2]; rfl
  · rw [h3]; rfl
  · rw [h3]; rfl
  · rw [h3]; rfl
  · rw [h3]; rfl
  · rw [h4]; rfl
  · rw [h4]; rfl
theorem eq_zero (b : Nat) (h : b < 18446744073709551616) : (FloatKind.f64.format.order b 0 == some .eq) = (decide (kindN b = 3) || decide (kindN b = 4)) := by
  rw [order_kind b h]
  rcases kind_cases b with ⟨h1, h2⟩ | ⟨h1, h2, h3⟩ | ⟨h1, h2, h3⟩ | ⟨h1, h2, h3⟩ | ⟨h1, h2, h3⟩ | ⟨h1, h2, h3, h4⟩ | ⟨h1, h2, h3, h4⟩
  · rw [h2]; rfl
  · rw [h3]; rfl
  · rw [h3]; rfl
  · rw [h3]; rfl
  · rw [h3]; rfl
  · rw [h4]; rfl
  · rw [h4]; rfl
theorem nan_kind (b : Nat) : isNanN b = decide (kindN b = 0) := by
  unfold isNanN
  rcases kind_cases b with ⟨h1, h2⟩ | ⟨h1, h2, h3⟩ | ⟨h1, h2, h3⟩ | ⟨h1, h2, h3⟩ | ⟨h1, h2, h3⟩ | ⟨h1, h2, h3, h4⟩ | ⟨h1, h2, h3, h4⟩
  · rw [h2, decide_eq_true h1]; rfl
  all_goals (first | rw [h4] | rw [h3]); rw [decide_eq_false (by omega)]; rfl
theorem minus_kind (b : Nat) (h : kindN b = 3 ∨ kindN b = 4) : minusN b = decide (kindN b = 3) := by
  rcases kind_cases b with ⟨h1, h2⟩ | ⟨h1, h2, h3⟩ | ⟨h1, h2, h3⟩ | ⟨h1, h2, h3⟩ | ⟨h1, h2, h3⟩ | ⟨h1, h2, h3, h4⟩ | ⟨h1, h2, h3, h4⟩
  · omega
  · omega
  · omega
  · rw [h2, h3]; rfl
  · rw [h2, h3]; rfl
  · omega
  · omega

/-! ### Sums -/

def sumStep (c b : Nat) : Nat := (double.add c b).getD 9221120237041090560
def sumN (l : List Nat) : Nat := match l with | [] => 0 | a :: r => r.foldl sumStep (canonN a)

theorem nan_word (b : Nat) (h : isNanN b = true) : ∃ s f, double.read b = .nan s f := by
  have h' : infR < rungN b := by simpa [isNanN] using h
  rw [read_double]
  unfold rungN infR half at h'
  rw [if_neg (by omega), if_neg (by omega), if_neg (by omega)]
  exact ⟨_, _, rfl⟩

theorem add_nan (x y : Nat) (h : isNanN x = true ∨ isNanN y = true) : double.add x y = none := by
  unfold Format.add
  rcases h with h | h
  · obtain ⟨s, f, e⟩ := nan_word x h; rw [e]; simp [Datum.sum]
  · obtain ⟨s, f, e⟩ := nan_word y h; rw [e]; cases double.read x <;> simp [Datum.sum]

theorem isNan_canon : isNanN 9221120237041090560 = true := by decide

theorem add_canon (x y : Nat) : double.add (canonN x) y = double.add x y := by
  unfold canonN
  split
  · rename_i h; rw [add_nan _ _ (.inl h), add_nan _ _ (.inl isNan_canon)]
  · rfl

/-- A word that is written for a datum that is no NaN is none. -/
theorem word_not_nan (neg : Bool) (r : Nat) (h : r ≤ 9218868437227405312) : isNanN (double.word neg r) = false := by
  unfold isNanN rungN Format.word infR half
  rw [double_sw, decide_eq_false_iff_not]
  split <;> omega

theorem nearest_not_nan (neg : Bool) (m : Nat) (p : Int) : isNanN (double.nearest neg m p) = false := by
  unfold Format.nearest
  dsimp only
  split
  · exact word_not_nan _ _ (by omega)
  · exact word_not_nan _ _ (by rw [double_inf]; exact Nat.min_le_right _ _)

theorem sum_not_nan (d e r : Datum) (h : d.sum e = some r) : ∀ s f, r ≠ .nan s f := by
  intro s f hr
  subst hr
  cases d <;> cases e <;> simp [Datum.sum] at h

theorem write_not_nan (d : Datum) (h : ∀ s f, d ≠ .nan s f) : isNanN (double.write d) = false := by
  cases d with
  | number neg mag place => exact nearest_not_nan _ _ _
  | infinity neg => exact word_not_nan _ _ (by rw [double_inf]; omega)
  | nan neg f => exact absurd rfl (h neg f)

theorem add_some (x y r : Nat) (h : double.add x y = some r) : isNanN r = false ∧ r < 18446744073709551616 := by
  refine ⟨?_, double.add_lt h⟩
  unfold Format.add at h
  cases hs : (double.read x).sum (double.read y) with
  | none => rw [hs] at h; simp at h
  | some d =>
    rw [hs] at h
    simp at h
    rw [← h]
    exact write_not_nan d (sum_not_nan _ _ _ hs)

theorem canon_of_not (b : Nat) (h : isNanN b = false) : canonN b = b := by unfold canonN; rw [h]; simp
theorem canon_of_nan (b : Nat) (h : isNanN b = true) : canonN b = 9221120237041090560 := by unfold canonN; rw [h]; simp

theorem sumStep_canon (x y : Nat) : sumStep (canonN x) y = sumStep x y := by unfold sumStep; rw [add_canon]

end Go.Proofs.Ytkngfhnjimdcjaa
