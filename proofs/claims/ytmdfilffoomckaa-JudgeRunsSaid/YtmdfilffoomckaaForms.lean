/- The reference: which keys and values are formed. Conditions: none. -/
import Derived.Test.YtmdfilffoomckaaEq
import Derived.Test.YtmdfilffoomckaaRSingle
import Derived.Laws.RangeString
import Derived.Laws.RangeAny
import Derived.Deep.QuietTactic
import Derived.BigQuiet
namespace Go.Proofs.Ytmdfilffoomckaa
open Go.ChangeShapes Go.WideShapes Go.ChangeAt Go.RowKit

def minusF (a : Int) : Bool := decide ((9223372036854775808 : Int) ≤ a)
def expF (a : Int) : Int := bits .and .u64 (a / 4503599627370496) 2047
def fracF (a : Int) : Int := bits .and .u64 a 4503599627370495
theorem c59 (a : Int) (w : World) : Calls Try.prog 59 #[.int .u64 a] w fun e w' => e = .returned (.tuple #[.bool (minusF a), .int .u64 (expF a), .int .u64 (fracF a)]) ∧ w = w' := by
  refine gen fun R hR => ?_
  go_enter Try.func59, Try.ntmps59
  go_wp2
  go_ret3
  exact hR _ _ ⟨rfl, rfl⟩
def kindF (a : Int) : Int :=
  if expF a = 2047 ∧ fracF a ≠ 0 then 0 else if expF a = 2047 ∧ minusF a = true then 1 else if expF a = 2047 then 6
  else if expF a = 0 ∧ fracF a = 0 ∧ minusF a = true then 3 else if expF a = 0 ∧ fracF a = 0 then 4 else if minusF a = true then 2 else 5
theorem c48 (a : Int) (w : World) : Calls Try.prog 48 #[.int .u64 a] w fun e w' => e = .returned (.int .i64 (kindF a)) ∧ w = w' := by
  refine gen fun R hR => ?_
  go_enter Try.func48, Try.ntmps48
  go_wp2_with (first | (go_at_call 59; (with_reducible refine (c59 _ _).mono ?_); rintro e w' ⟨rfl, rfl⟩) | fail)
  all_goals
    go_tidy
    unfold kindF
    simp_all
def canonF (a : Int) : Int := if kindF a = 0 then 9221120237041090560 else a
theorem c44 (a : Int) (w : World) : Calls Try.prog 44 #[.int .u64 a] w fun e w' => e = .returned (.int .u64 (canonF a)) ∧ w = w' := by
  refine gen fun R hR => ?_
  go_enter Try.func44, Try.ntmps44
  go_wp2_with (first | (go_at_call 48; (with_reducible refine (c48 _ _).mono ?_); rintro e w' ⟨rfl, rfl⟩) | fail)
  all_goals
    go_tidy
    unfold canonF
    simp_all

theorem width_pos (s : ByteArray) (pos : Nat) (h : pos < s.size) : 1 ≤ (Utf8.decode s pos).2 := by
  by_cases ha : (s[pos]'h).toNat < 128
  · rw [decode_ascii s pos h ha]
    exact Nat.le_refl _
  · exact (decode_high s pos h (by omega)).2
end Go.Proofs.Ytmdfilffoomckaa
