/- Groups that may be. Conditions: each law's own. -/
import Derived.Test.YtamjdghjaimihaaQDone2
namespace Go.Proofs.Ytamjdghjaimihaa
open Go.ChangeShapes Go.WideShapes Go.ChangeAt Go.RowKit

def encG (n : Int) : List Value := [.int .i64 n]
theorem RowOf.gAt {w : World} {a : Option Addr} {n cap : Nat} {xs : List Int} (h : RowOf encG 1 w (.slice a n cap) xs) {i : Nat} (hi : i < xs.length) :
    ∃ b o x, a = some ⟨b, o, none⟩ ∧ b < w.heap.size ∧ xs[i]? = some x ∧ w.cell? ⟨b, o + i, none⟩ = some (.int .i64 x) := by
  obtain ⟨a', cap', hv, h1, h2, h3⟩ := h
  cases hv
  obtain ⟨b, o, rfl, hlt, hc⟩ := h3 (by omega)
  have hp : xs[i]? = some xs[i] := List.getElem?_eq_getElem hi
  refine ⟨b, o, xs[i], rfl, hlt, hp, ?_⟩
  have := hc i 0 _ _ hp rfl
  rw [Nat.mul_one, Nat.add_zero] at this
  exact this
def IndexEnd (xs : List Int) (g : Int) (w : World) (e : Ending) (w' : World) : Prop := w' = w ∧ ∃ n : Int, e = .returned (.int .i64 n) ∧ ((n = -1 ∧ g ∉ xs) ∨ (0 ≤ n ∧ g ∈ xs))
set_option maxRecDepth 100000 in
theorem c55 {w : World} {v : Value} {xs : List Int} (h : RowOf encG 1 w v xs) (g : Int) : Calls Try.prog 55 #[v, .int .i64 g] w (IndexEnd xs g w) := by
  refine gen (S := IndexEnd xs g w) fun R hR => ?_
  have hln := h.len
  unfold maxLen at hln
  obtain ⟨a, cap, rfl, -⟩ := id h
  have H := Lib.hid h
  have HR := Lib.hid hR
  clear h hR
  go_enter Try.func55, Try.ntmps55
  go_wp2
  go_loop [8] (fun i => ∃ m : Nat, m ≤ xs.length ∧ i = .int .i64 m ∧ ∀ (k : Nat) y, k < m → xs[k]? = some y → y ≠ g) (fun i => xs.length - (intOf i).toNat)
  case atStart => exact ⟨0, by omega, rfl, fun k y hk => by omega⟩
  case round =>
    obtain ⟨m, hm, rfl, hno⟩ := hrel
    have HN := Lib.hid hno
    clear hno
    rcases Nat.lt_or_ge m xs.length with hlt | hge
    · obtain ⟨b, o, x, rfl, hbl, hx, hc⟩ := H.out.gAt hlt
      have hmI : (m : Int) < (xs.length : Int) := by omega
      have HX := Lib.hid hx
      have HLT := Lib.hid hlt
      clear hx hlt
      by_cases he : x = g
      · subst he
        go_wp2
        go_tidy
        exact HR.out _ _ ⟨rfl, _, rfl, .inr ⟨by omega, List.mem_of_getElem? HX.out⟩⟩
      · have hne : (g == x) = false := by simpa using fun e : g = x => he e.symm
        have HE := Lib.hid he
        clear he
        go_wp2
        go_tidy
        refine ⟨⟨m + 1, HLT.out, rfl, fun k y hk hy => ?_⟩, by have := HLT.out; simp [intOf]; omega⟩
        rcases Nat.lt_or_ge k m with h1 | h1
        · exact HN.out k y h1 hy
        · obtain rfl : k = m := by omega
          rw [HX.out] at hy; cases hy; exact HE.out
    · obtain rfl : m = xs.length := by omega
      go_wp2
      go_tidy
      refine HR.out _ _ ⟨rfl, _, rfl, .inl ⟨rfl, fun hg => ?_⟩⟩
      obtain ⟨k, hk⟩ := List.getElem?_of_mem hg
      exact HN.out k g (List.getElem?_eq_some_iff.1 hk).1 hk rfl
theorem c46 {w : World} {v : Value} {xs : List Int} (h : RowOf encG 1 w v xs) (g : Int) : Calls Try.prog 46 #[v, .int .i64 g] w fun e w' => e = .returned (.bool (decide (g ∈ xs))) ∧ w' = w := by
  refine gen fun R hR => ?_
  have H55 := Lib.hid (c55 h g)
  have HR := Lib.hid hR
  clear h hR
  go_enter Try.func46, Try.ntmps46
  go_wp2_with (first | (go_at_call 55; refine H55.out.mono ?_; rintro e w' ⟨rfl, n, rfl, hn⟩) | fail)
  go_tidy
  have : decide (0 ≤ n) = decide (g ∈ xs) := by
    rw [decide_eq_decide]
    rcases hn with ⟨h1, h2⟩ | ⟨h1, h2⟩
    · constructor
      · intro h; omega
      · intro h; exact absurd h h2
    · exact ⟨fun _ => h2, fun _ => h1⟩
  rw [this]
  exact HR.out _ _ ⟨rfl, rfl⟩
/-- The first m are in order. -/
def RgtTo (xs : List Int) (m : Nat) : Prop := (∀ h ∈ xs.take m, 0 ≤ h ∧ h < 4) ∧ (xs.take m).Pairwise (· < ·)
theorem rgt_push {xs : List Int} {m : Nat} {x : Int} (h : RgtTo xs m) (hx : xs[m]? = some x) (h0 : 0 ≤ x) (h4 : x < 4) (hp : ∀ y, 0 < m → xs[m - 1]? = some y → y < x) : RgtTo xs (m + 1) := by
  unfold RgtTo
  rw [List.take_add_one, hx]
  refine ⟨fun k hk => ?_, ?_⟩
  · rcases List.mem_append.1 hk with h1 | h1
    · exact h.1 k h1
    · simp at h1; subst h1; exact ⟨h0, h4⟩
  · rw [List.pairwise_append]
    refine ⟨h.2, by simp, fun a ha b hb => ?_⟩
    simp at hb; subst hb
    obtain ⟨i, hi⟩ := List.getElem?_of_mem ha
    have hil := (List.getElem?_eq_some_iff.1 hi).1
    rw [List.length_take] at hil
    have hm : m ≤ xs.length := by have := (List.getElem?_eq_some_iff.1 hx).1; omega
    have him : i < m := by omega
    obtain ⟨y, hy⟩ : ∃ y, xs[m - 1]? = some y := ⟨xs[m - 1]'(by omega), List.getElem?_eq_getElem _⟩
    have hyx := hp y (by omega) hy
    rcases Nat.lt_or_ge i (m - 1) with h1 | h1
    · have hyt : (xs.take m)[m - 1]? = some y := by rw [List.getElem?_take, if_pos (by omega)]; exact hy
      have := List.pairwise_iff_getElem.1 h.2 i (m - 1) (by rw [List.length_take]; omega) (by rw [List.length_take]; omega) h1
      rw [(List.getElem?_eq_some_iff.1 hi).2, (List.getElem?_eq_some_iff.1 hyt).2] at this
      omega
    · obtain rfl : i = m - 1 := by omega
      rw [List.getElem?_take, if_pos him, hy] at hi
      cases hi; exact hyx
theorem rgt_not {g : Int} {xs : List Int} {m : Nat} {x : Int} (hx : xs[m]? = some x) (h : ¬ (0 ≤ x ∧ x < 4) ∨ ∃ y, 0 < m ∧ xs[m - 1]? = some y ∧ ¬ y < x) : ¬ Right g xs := fun hr => by
  rcases h with h | ⟨y, h0, hy, h⟩
  · exact h (hr.1 x (List.mem_of_getElem? hx))
  · have := List.pairwise_iff_getElem.1 hr.2.1 (m - 1) m (List.getElem?_eq_some_iff.1 hy).1 (List.getElem?_eq_some_iff.1 hx).1 (by omega)
    rw [(List.getElem?_eq_some_iff.1 hy).2, (List.getElem?_eq_some_iff.1 hx).2] at this
    exact h this
set_option maxHeartbeats 4000000 in
set_option maxRecDepth 100000 in
theorem c33 {w : World} {x : Nat} {g c : Int} {lv v : Value} {xs : List Int} (hx : VarAt w x 78 [.int .i64 g, .int .u64 c, lv]) (h : RowOf encG 1 w v xs) : Calls Try.prog 33 #[.pointer (some ⟨x, 0, none⟩), v] w fun e w' => e = .returned (.bool (decide (Right g xs))) ∧ w' = w := by
  refine gen fun R hR => ?_
  have hln := h.len
  unfold maxLen at hln
  obtain ⟨a, cap, rfl, -⟩ := id h
  have f0 := hx.cell (j := 0) rfl
  have xl := hx.lt
  have no : ¬ Right g xs → R (.returned (.bool false)) w := fun hn => hR _ _ ⟨by rw [decide_eq_false hn], rfl⟩
  have NO := Lib.hid no
  have H46 := Lib.hid (c46 h g)
  have H := Lib.hid h
  have HR := Lib.hid hR
  clear h hR hx no
  go_enter Try.func33, Try.ntmps33
  go_wp2
  go_loop [9] (fun i => ∃ m : Nat, m ≤ xs.length ∧ i = .int .i64 m ∧ RgtTo xs m) (fun i => xs.length - (intOf i).toNat)
  case atStart => exact ⟨0, by omega, rfl, by simp [RgtTo]⟩
  case round =>
    obtain ⟨m, hm, rfl, hno⟩ := hrel
    have HN := Lib.hid hno
    clear hno
    rcases Nat.lt_or_ge m xs.length with hlt | hge
    · obtain ⟨b, o, y, rfl, hbl, hy, hc⟩ := H.out.gAt hlt
      have hmI : (m : Int) < (xs.length : Int) := by omega
      have HY := Lib.hid hy
      have HLT := Lib.hid hlt
      by_cases h0 : y < 0
      · have HB := Lib.hid (NO.out (rgt_not hy (.inl (by omega))))
        clear hy hlt
        go_wp2
        go_tidy
        exact HB.out
      by_cases h4 : 4 ≤ y
      · have HB := Lib.hid (NO.out (rgt_not hy (.inl (by omega))))
        have h0f : decide (y < 0) = false := decide_eq_false h0
        clear hy hlt h0
        go_wp2
        go_tidy
        exact HB.out
      have h0f : decide (y < 0) = false := decide_eq_false h0
      have h4f : decide (4 ≤ y) = false := decide_eq_false h4
      have HY0 := Lib.hid (show 0 ≤ y ∧ y < 4 by omega)
      by_cases hm0 : 0 < m
      · have hm1 : (0 : Int) < (m : Int) := by omega
        obtain ⟨j, hj⟩ : ∃ j, m = j + 1 := ⟨m - 1, by omega⟩
        have hj1 : (m : Int) - 1 = (j : Int) := by omega
        have hjI : (j : Int) < (xs.length : Int) := by omega
        have hjw : IntKind.i64.wrap (j : Int) = (j : Int) := IntWalk.i64_in _ (by omega)
        obtain ⟨b', o', z, hbb, -, hz, hcz⟩ := H.out.gAt (i := j) (by omega)
        cases hbb
        by_cases hzy : y ≤ z
        · have HB := Lib.hid (NO.out (rgt_not hy (.inr ⟨z, hm0, by rw [hj]; exact hz, by omega⟩)))
          clear hy hlt h0 h4 hz hj
          go_wp2
          go_tidy
          exact HB.out
        · have hzf : decide (y ≤ z) = false := decide_eq_false hzy
          have HP := Lib.hid (rgt_push HN.out hy HY0.out.1 HY0.out.2 (fun u _ hu => by rw [hj] at hu; simp only [Nat.add_sub_cancel] at hu; rw [hz] at hu; cases hu; omega))
          clear hy hlt h0 h4 hz hj hzy
          go_wp2
          go_tidy
          exact ⟨⟨m + 1, HLT.out, rfl, HP.out⟩, by have := HLT.out; simp [intOf]; omega⟩
      · have hm1 : ¬ (0 : Int) < (m : Int) := by omega
        have hm1f : decide ((0 : Int) < (m : Int)) = false := decide_eq_false hm1
        have HP := Lib.hid (rgt_push HN.out hy HY0.out.1 HY0.out.2 (fun u h _ => absurd h hm0))
        clear hy hlt h0 h4 hm1
        go_wp2
        go_tidy
        exact ⟨⟨m + 1, HLT.out, rfl, HP.out⟩, by have := HLT.out; simp [intOf]; omega⟩
    · obtain rfl : m = xs.length := by omega
      have hr := HN.out
      unfold RgtTo at hr
      rw [List.take_length] at hr
      have hd : decide (Right g xs) = decide (g ∈ xs) := by
        rw [decide_eq_decide]
        exact ⟨fun h => h.2.2, fun h => ⟨hr.1, hr.2, h⟩⟩
      have HD := Lib.hid hd
      clear hr hd
      go_wp2_with (first | (go_at_call 46; refine H46.out.mono ?_; rintro e w' ⟨rfl, rfl⟩) | fail)
      go_tidy
      refine HR.out _ _ ⟨?_, rfl⟩
      show Ending.returned (.bool (decide (g ∈ xs))) = _
      rw [HD.out]
end Go.Proofs.Ytamjdghjaimihaa
