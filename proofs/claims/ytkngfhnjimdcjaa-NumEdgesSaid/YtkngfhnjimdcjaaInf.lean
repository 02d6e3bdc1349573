/- What NaNs, infinities and zeros make of a sum: plain facts on words. Conditions: words below 2^64. -/
import Derived.Test.YtkngfhnjimdcjaaScalar
namespace Go.Proofs.Ytkngfhnjimdcjaa
open Ieee

theorem read_kind (b : Nat) (h : b < 18446744073709551616) :
    (kindN b = 0 ∧ ∃ s f, double.read b = .nan s f) ∨ (kindN b = 1 ∧ double.read b = .infinity true) ∨ (kindN b = 6 ∧ double.read b = .infinity false) ∨
    (kindN b ≠ 0 ∧ kindN b ≠ 1 ∧ kindN b ≠ 6 ∧ ∃ s m i, double.read b = .number s m i) := by
  have hi : 0 < infR := by decide
  rcases read_form b h with ⟨h1, hr⟩ | ⟨h1, hr⟩ | ⟨h1, m, i, hr, _⟩
  · left
    refine ⟨?_, hr⟩
    rcases kind_cases b with ⟨g1, g2⟩ | ⟨g1, g2, g3⟩ | ⟨g1, g2, g3⟩ | ⟨g1, g2, g3⟩ | ⟨g1, g2, g3⟩ | ⟨g1, g0, g2, g3⟩ | ⟨g1, g0, g2, g3⟩ <;> first | exact g2 | omega
  · rcases kind_cases b with ⟨g1, g2⟩ | ⟨g1, g2, g3⟩ | ⟨g1, g2, g3⟩ | ⟨g1, g2, g3⟩ | ⟨g1, g2, g3⟩ | ⟨g1, g0, g2, g3⟩ | ⟨g1, g0, g2, g3⟩
    · omega
    · rw [g2] at hr; exact .inr (.inl ⟨g3, hr⟩)
    · rw [g2] at hr; exact .inr (.inr (.inl ⟨g3, hr⟩))
    all_goals omega
  · right; right; right
    refine ⟨?_, ?_, ?_, _, _, _, hr⟩ <;>
    rcases kind_cases b with ⟨g1, g2⟩ | ⟨g1, g2, g3⟩ | ⟨g1, g2, g3⟩ | ⟨g1, g2, g3⟩ | ⟨g1, g2, g3⟩ | ⟨g1, g0, g2, g3⟩ | ⟨g1, g0, g2, g3⟩ <;> omega

theorem sumStep_lt (c b : Nat) : sumStep c b < 18446744073709551616 := by
  unfold sumStep
  cases h : double.add c b with
  | none => simp
  | some r => exact (add_some c b r h).2

theorem kind_can : kindN 9221120237041090560 = 0 := by decide
theorem write_inf (s : Bool) : kindN (double.write (.infinity s)) = if s then 1 else 6 := by cases s <;> decide

theorem step_nan (c b : Nat) (h : kindN c = 0 ∨ kindN b = 0) : kindN (sumStep c b) = 0 := by
  have e : double.add c b = none := by
    apply add_nan
    rcases h with h | h
    · left; rw [nan_kind, h]; rfl
    · right; rw [nan_kind, h]; rfl
  unfold sumStep
  rw [e]; exact kind_can

/-- An infinity, or a NaN. -/
def PInf (s : Bool) (c : Nat) : Prop := kindN c = (if s then 1 else 6) ∨ kindN c = 0

theorem sum_inf_left (s : Bool) (d : Datum) : (Datum.infinity s).sum d = none ∨ (Datum.infinity s).sum d = some (.infinity s) := by
  cases d with
  | number t m i => right; rfl
  | infinity t => unfold Datum.sum; by_cases h : s = t <;> simp [h]
  | nan t f => left; rfl
theorem sum_inf_right (s : Bool) (d : Datum) : d.sum (.infinity s) = none ∨ d.sum (.infinity s) = some (.infinity s) := by
  cases d with
  | number t m i => right; rfl
  | infinity t => unfold Datum.sum; by_cases h : t = s <;> simp [h]
  | nan t f => left; rfl

theorem pinf_of {s : Bool} {c b : Nat} (h : (double.read c).sum (double.read b) = none ∨ (double.read c).sum (double.read b) = some (.infinity s)) : PInf s (sumStep c b) := by
  unfold sumStep Format.add
  rcases h with h | h
  · rw [h]; exact .inr kind_can
  · rw [h]; exact .inl (write_inf s)

theorem read_inf {s : Bool} {b : Nat} (h : b < 18446744073709551616) (hk : kindN b = if s then 1 else 6) : double.read b = .infinity s := by
  rcases read_kind b h with ⟨h1, _⟩ | ⟨h1, h2⟩ | ⟨h1, h2⟩ | ⟨h1, h2, h3, _⟩
  · cases s <;> simp at hk <;> omega
  · cases s
    · simp at hk; omega
    · exact h2
  · cases s
    · exact h2
    · simp at hk; omega
  · cases s <;> simp at hk <;> omega

theorem step_inf_right {s : Bool} {c b : Nat} (hb : b < 18446744073709551616) (h : kindN b = if s then 1 else 6) : PInf s (sumStep c b) := by
  apply pinf_of; rw [read_inf hb h]; exact sum_inf_right _ _
theorem step_inf_left {s : Bool} {c b : Nat} (hc : c < 18446744073709551616) (h : PInf s c) : PInf s (sumStep c b) := by
  rcases h with h | h
  · apply pinf_of; rw [read_inf hc h]; exact sum_inf_left _ _
  · exact .inr (step_nan c b (.inl h))

/-- What is known of a sum behind the numbers 'l': of NaNs and infinities among them. -/
def Known (l : List Nat) (c : Nat) : Prop :=
  c < 18446744073709551616 ∧ ((∃ x ∈ l, kindN x = 0) → kindN c = 0) ∧ ∀ s : Bool, (∃ x ∈ l, kindN x = if s then 1 else 6) → PInf s c

theorem Known.step {l : List Nat} {c b : Nat} (h : Known l c) (hb : b < 18446744073709551616) : Known (b :: l) (sumStep c b) := by
  obtain ⟨h1, h2, h3⟩ := h
  refine ⟨sumStep_lt _ _, ?_, ?_⟩
  · rintro ⟨x, hx, hk⟩
    rcases List.mem_cons.1 hx with rfl | hx
    · exact step_nan _ _ (.inr hk)
    · exact step_nan _ _ (.inl (h2 ⟨x, hx, hk⟩))
  · rintro s ⟨x, hx, hk⟩
    rcases List.mem_cons.1 hx with rfl | hx
    · exact step_inf_right hb hk
    · exact step_inf_left h1 (h3 s ⟨x, hx, hk⟩)

theorem Known.mono {l l' : List Nat} {c : Nat} (h : Known l c) (hl : ∀ x, x ∈ l' → x ∈ l) : Known l' c :=
  ⟨h.1, fun ⟨x, hx, hk⟩ => h.2.1 ⟨x, hl x hx, hk⟩, fun s ⟨x, hx, hk⟩ => h.2.2 s ⟨x, hl x hx, hk⟩⟩

theorem Known.fold (l : List Nat) : ∀ (p : List Nat) (c : Nat), Known p c → (∀ x ∈ l, x < 18446744073709551616) → Known (p ++ l) (l.foldl sumStep c) := by
  induction l with
  | nil => intro p c h _; simpa using h
  | cons b l ih =>
    intro p c h hl
    have h1 := h.step (hl b List.mem_cons_self)
    exact (ih _ _ h1 (fun x hx => hl x (List.mem_cons_of_mem _ hx))).mono (by intro x hx; simp at hx ⊢; rcases hx with h | h | h <;> simp [h])

theorem kind_canon (b : Nat) : kindN (canonN b) = kindN b := by
  cases h : isNanN b
  · rw [canon_of_not b h]
  · rw [canon_of_nan b h]
    rw [nan_kind] at h
    simp at h
    rw [h]; exact kind_can

theorem known_one (x : Nat) (h : x < 18446744073709551616) : Known [x] (canonN x) := by
  refine ⟨canon_lt x h, ?_, ?_⟩
  · rintro ⟨y, hy, hk⟩; simp at hy; subst hy; rw [kind_canon]; exact hk
  · rintro s ⟨y, hy, hk⟩; simp at hy; subst hy; left; rw [kind_canon]; exact hk

theorem known_sum (l : List Nat) (hl : ∀ x ∈ l, x < 18446744073709551616) : Known l (sumN l) := by
  cases l with
  | nil => exact ⟨by decide, by simp, by simp⟩
  | cons x l =>
    exact (Known.fold l [x] _ (known_one x (hl x List.mem_cons_self)) (fun y hy => hl y (List.mem_cons_of_mem _ hy)))

theorem canon_sum_nan (b : Nat) (h : kindN (canonN b) = 0) : canonN b = 9221120237041090560 := by
  rw [kind_canon] at h
  exact canon_of_nan b (by rw [nan_kind, h]; rfl)

/-- How a sum of two ends, by the kinds. -/
theorem two_inf {x y : Nat} {s : Bool} (hx : x < 18446744073709551616) (hy : y < 18446744073709551616) (nx : kindN x ≠ 0) (ny : kindN y ≠ 0)
    (hno : kindN x ≠ (if s then 6 else 1)) (hno2 : kindN y ≠ (if s then 6 else 1))
    (h : kindN x = (if s then 1 else 6) ∨ kindN y = (if s then 1 else 6)) : kindN (sumN [x, y]) = if s then 1 else 6 := by
  show kindN (sumStep (canonN x) y) = _
  rw [sumStep_canon]
  have e : (double.read x).sum (double.read y) = some (.infinity s) := by
    rcases h with h | h
    · rw [read_inf hx h]
      rcases read_kind y hy with ⟨h1, _⟩ | ⟨h1, h2⟩ | ⟨h1, h2⟩ | ⟨_, _, _, t, m, i, h2⟩
      · exact absurd h1 ny
      · rw [h2]; cases s
        · simp at hno2; omega
        · rfl
      · rw [h2]; cases s
        · rfl
        · simp at hno2; omega
      · rw [h2]; rfl
    · rw [read_inf hy h]
      rcases read_kind x hx with ⟨h1, _⟩ | ⟨h1, h2⟩ | ⟨h1, h2⟩ | ⟨_, _, _, t, m, i, h2⟩
      · exact absurd h1 nx
      · rw [h2]; cases s
        · simp at hno; omega
        · rfl
      · rw [h2]; cases s
        · rfl
        · simp at hno; omega
      · rw [h2]; rfl
  unfold sumStep Format.add
  rw [e]
  exact write_inf s

def anyK (l : List Nat) (k : Int) : Bool := l.any fun x => decide (kindN x = k)
theorem anyK_iff (l : List Nat) (k : Int) : anyK l k = true ↔ ∃ x ∈ l, kindN x = k := by unfold anyK; simp
theorem anyK_not {l : List Nat} {k : Int} (h : anyK l k = false) {x : Nat} (hx : x ∈ l) : kindN x ≠ k := by
  intro e
  have := (anyK_iff l k).2 ⟨x, hx, e⟩
  rw [h] at this; cases this

/-- A NaN, or infinities of both signs, make the one NaN. -/
theorem edges_nan (l : List Nat) (hl : ∀ x ∈ l, x < 18446744073709551616) (h : anyK l 0 = true ∨ anyK l 1 = true ∧ anyK l 6 = true) : kindN (canonN (sumN l)) = 0 := by
  obtain ⟨h1, h2, h3⟩ := known_sum l hl
  rw [kind_canon]
  rcases h with h | ⟨ha, hb⟩
  · exact h2 ((anyK_iff l 0).1 h)
  · have p1 := h3 true ((anyK_iff l 1).1 ha)
    have p6 := h3 false ((anyK_iff l 6).1 hb)
    unfold PInf at p1 p6
    simp at p1 p6
    omega

theorem edges_plain (l : List Nat) (h0 : anyK l 0 = false) (hn : l.length ≤ 1) : kindN (canonN (sumN l)) ≠ 0 := by
  rw [kind_canon]
  match l, hn with
  | [], _ => decide
  | [x], _ =>
    show kindN (canonN x) ≠ 0
    rw [kind_canon]; exact anyK_not h0 (by simp)

theorem edges_inf (l : List Nat) (hl : ∀ x ∈ l, x < 18446744073709551616) (h0 : anyK l 0 = false) (hb : anyK l 1 = false ∨ anyK l 6 = false) (hn : l.length ≤ 2) :
    (anyK l 1 = true → kindN (canonN (sumN l)) = 1) ∧ (anyK l 6 = true → kindN (canonN (sumN l)) = 6) := by
  have key : ∀ s : Bool, anyK l (if s then 1 else 6) = true → anyK l (if s then 6 else 1) = false → kindN (canonN (sumN l)) = if s then 1 else 6 := by
    intro s hs ho
    rw [kind_canon]
    obtain ⟨z, hz, hk⟩ := (anyK_iff _ _).1 hs
    match l, hn with
    | [], _ => simp at hz
    | [x], _ =>
      simp at hz; subst hz
      show kindN (canonN z) = _
      rw [kind_canon]; exact hk
    | [x, y], _ =>
      refine two_inf (hl x (by simp)) (hl y (by simp)) (anyK_not h0 (by simp)) (anyK_not h0 (by simp)) (anyK_not ho (by simp)) (anyK_not ho (by simp)) ?_
      simp at hz
      rcases hz with rfl | rfl
      · exact .inl hk
      · exact .inr hk
  constructor
  · intro h1
    exact key true h1 (hb.resolve_left (by rw [h1]; decide))
  · intro h6
    exact key false h6 (hb.resolve_right (by rw [h6]; decide))

/-! ### Zeros -/
def zw (s : Bool) : Nat := if s then 9223372036854775808 else 0
theorem step_zero (s t : Bool) : sumStep (zw s) (zw t) = zw (s && t) := by cases s <;> cases t <;> decide +kernel
theorem fold_zero (l : List Bool) : ∀ s : Bool, (l.map zw).foldl sumStep (zw s) = zw (s && l.all id) := by
  induction l with
  | nil => intro s; simp
  | cons t l ih => intro s; simp only [List.map_cons, List.foldl_cons, step_zero, ih, List.all_cons, Bool.and_assoc, id]
theorem canon_zero (s : Bool) : canonN (zw s) = zw s := by cases s <;> decide
theorem sum_zero (l : List Bool) : canonN (sumN (l.map zw)) = zw (decide (0 < l.length) && l.all id) := by
  cases l with
  | nil => decide
  | cons t l =>
    show canonN ((l.map zw).foldl sumStep (canonN (zw t))) = _
    rw [canon_zero, fold_zero, canon_zero]; simp
end Go.Proofs.Ytkngfhnjimdcjaa
