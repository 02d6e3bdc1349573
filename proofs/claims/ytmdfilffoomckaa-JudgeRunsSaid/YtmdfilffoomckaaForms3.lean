/- The reference: which values are formed. Conditions: none. -/
import Derived.Test.YtmdfilffoomckaaForms2
namespace Go.Proofs.Ytmdfilffoomckaa
open Go.ChangeShapes Go.WideShapes Go.ChangeAt Go.RowKit

def FormedOk (v : ValD) : Prop :=
  (v.kind = 0 ∧ v.bits = 0 ∧ v.text = ⟨#[]⟩) ∨ (v.kind = 1 ∧ v.text = ⟨#[]⟩ ∧ canonF v.bits = v.bits) ∨ (v.kind = 2 ∧ v.bits = 0 ∧ v.text.size ≤ 40 ∧ validN v.text v.text.size 0 = true)
set_option maxHeartbeats 4000000 in
set_option maxRecDepth 1000000 in
theorem c38 (v : ValD) (hs : v.text.size ≤ maxLen) (w : World) : Calls Try.prog 38 #[v.agg] w (TellEnd (FormedOk v) w) := by
  refine gen (S := TellEnd (FormedOk v) w) fun R hR => ?_
  obtain ⟨k, x, s⟩ := v
  have hb1 : Below w.heap.size w (w.alloc (.cells #[.int .i64 k, .int .u64 x, .string s] 47)) := (Below.refl _ _).alloc (Nat.le_refl _) _
  have yes : FormedOk ⟨k, x, s⟩ → ∀ W, Below w.heap.size w W → R (.returned (.bool true)) W := fun h W hb => hR _ _ (TellEnd.yes h hb)
  have no : ¬ FormedOk ⟨k, x, s⟩ → ∀ W, Below w.heap.size w W → R (.returned (.bool false)) W := fun h W hb => hR _ _ (TellEnd.no h hb)
  have h45 := c45 s hs
  simp only [ValD.agg] at hs ⊢
  unfold FormedOk at yes no
  simp only at yes no
  have HB1 := Lib.hid hb1
  have H45 := Lib.hid h45
  clear hR hb1 h45
  by_cases he : s = ⟨#[]⟩
  · subst he
    by_cases hk0 : k = 0
    · subst hk0
      by_cases hx : x = 0
      · subst hx
        have YES := Lib.hid (yes (by simp))
        clear yes no
        go_enter Try.func38, Try.ntmps38
        go_wp2
        go_tidy
        exact YES.out _ HB1.out
      · have NO := Lib.hid (no (by simp [hx]))
        clear yes no
        go_enter Try.func38, Try.ntmps38
        go_wp2
        go_tidy
        exact NO.out _ HB1.out
    · by_cases hk1 : k = 1
      · subst hk1
        have h44 : ∀ W, Calls Try.prog 44 #[.int .u64 x] W fun e w' => e = .returned (.int .u64 (canonF x)) ∧ w' = W := fun W => (c44 x W).mono fun e w' h => ⟨h.1, h.2.symm⟩
        simp only [reduceCtorEq, Int.reduceEq, false_and, true_and, false_or, or_false, Int.one_ne_zero] at yes no
        generalize canonF x = y at h44 yes no
        have H44 := Lib.hid h44
        have YES := Lib.hid yes
        have NO := Lib.hid no
        clear yes no h44 hk0
        by_cases hy : y = x
        · subst hy
          go_enter Try.func38, Try.ntmps38
          go_wp2_with fail
          go_quiet ((go_at_call 44; refine Calls.quiet_of_same (H44.out _)))
          go_wp2
          go_tidy
          exact YES.out trivial _ (below_drewN HB1.out _)
        · go_enter Try.func38, Try.ntmps38
          go_wp2_with fail
          go_quiet ((go_at_call 44; refine Calls.quiet_of_same (H44.out _)))
          have hyf : (y == x) = false := by simpa using hy
          go_wp2
          go_tidy
          show R (.returned (.bool (y == x))) _
          rw [hyf]
          exact NO.out hy _ (below_drewN HB1.out _)
      · have hv : validN ⟨#[]⟩ (ByteArray.mk #[]).size 0 = true := rfl
        have hz0 : (ByteArray.mk #[]).size = 0 := rfl
        by_cases hk2 : k = 2
        · subst hk2
          by_cases hx : x = 0
          · subst hx
            have YES := Lib.hid (yes (by right; right; exact ⟨rfl, rfl, by decide, rfl⟩))
            clear yes no
            go_enter Try.func38, Try.ntmps38
            go_wp2_with (first | (go_at_call 45; refine (H45.out _).mono ?_; rintro e w' ⟨rfl, hb2⟩; have HB2 := Lib.hid hb2; clear hb2) | fail)
            go_tidy
            exact YES.out _ (HB1.out.trans (HB2.out.mono HB1.out.size))
          · have NO := Lib.hid (no (by simp [hx]))
            clear yes no
            go_enter Try.func38, Try.ntmps38
            go_wp2_with fail
            go_tidy
            exact NO.out _ HB1.out
        · have NO := Lib.hid (no (by simp [hk0, hk1, hk2]))
          clear yes no
          go_enter Try.func38, Try.ntmps38
          go_wp2_with fail
          go_tidy
          exact NO.out _ HB1.out
  · have hxx : s.toList.isEmpty = false := by
      rw [ByteArray.toList_eq]
      obtain ⟨⟨l⟩⟩ := s
      cases l with
      | nil => exact absurd rfl he
      | cons a l => rfl
    by_cases hk0 : k = 0
    · subst hk0
      have NO := Lib.hid (no (by simp [he]))
      clear yes no
      by_cases hx : x = 0
      · subst hx
        go_enter Try.func38, Try.ntmps38
        go_wp2
        go_tidy
        exact NO.out _ HB1.out
      · go_enter Try.func38, Try.ntmps38
        go_wp2
        go_tidy
        exact NO.out _ HB1.out
    · by_cases hk1 : k = 1
      · subst hk1
        have NO := Lib.hid (no (by simp [he]))
        clear yes no
        go_enter Try.func38, Try.ntmps38
        go_wp2_with fail
        go_quiet (fail)
        go_wp2
        go_tidy
        exact NO.out _ (below_drewN HB1.out _)
      · by_cases hk2 : k = 2
        · subst hk2
          by_cases hx : x = 0
          · subst hx
            by_cases hl : (s.size : Int) ≤ 40
            · have hl' : s.size ≤ 40 := by omega
              simp only [he, hl', Int.reduceEq, false_and, true_and, and_false, false_or, or_false] at yes no
              have YES := Lib.hid yes
              have NO := Lib.hid no
              clear yes no
              generalize validN s s.size 0 = vb at H45 YES NO
              go_enter Try.func38, Try.ntmps38
              go_wp2_with (first | (go_at_call 45; refine (H45.out _).mono ?_; rintro e w' ⟨rfl, hb2⟩; have HB2 := Lib.hid hb2; clear hb2) | fail)
              go_tidy
              have hb3 := HB1.out.trans (HB2.out.mono HB1.out.size)
              cases vb with
              | true => exact YES.out rfl _ hb3
              | false => exact NO.out (by simp) _ hb3
            · have NO := Lib.hid (no (by simp [he]; omega))
              clear yes no
              go_enter Try.func38, Try.ntmps38
              go_wp2_with fail
              go_tidy
              exact NO.out _ HB1.out
          · have NO := Lib.hid (no (by simp [he, hx]))
            clear yes no
            go_enter Try.func38, Try.ntmps38
            go_wp2_with fail
            go_tidy
            exact NO.out _ HB1.out
        · have NO := Lib.hid (no (by simp [hk0, hk1, hk2]))
          clear yes no
          go_enter Try.func38, Try.ntmps38
          go_wp2_with fail
          go_tidy
          exact NO.out _ HB1.out
end Go.Proofs.Ytmdfilffoomckaa
