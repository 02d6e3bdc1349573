/- What the functions that take a list of numbers compute: Sum, Least, Most, of the package and of its reference. Conditions: the slice's cells hold uint64 numbers. -/
import Derived.Test.YtkngfhnjimdcjaaScalar
import Derived.Deep.QuietTactic
import Derived.BigQuiet
namespace Go.Proofs.Ytkngfhnjimdcjaa
open Go.ChangeShapes Go.WideShapes Go.ChangeAt Go.RowKit

/-- A slice that reads as a list of numbers. -/
def Reads (w : World) (a : Option Addr) (l : List Nat) (c : Nat) : Prop :=
  l.length ≤ c ∧ c ≤ maxLen ∧ (∀ x ∈ l, x < 18446744073709551616) ∧
  (0 < l.length → ∃ b o, a = some ⟨b, o, none⟩ ∧ ∀ i, i < l.length → w.cell? ⟨b, o + i, none⟩ = some (.int .u64 ((l[i]?.getD 0 : Nat) : Int)))

theorem Reads.drewN {w : World} {a : Option Addr} {l : List Nat} {c : Nat} (h : Reads w a l c) (n : Nat) : Reads (w.drewN n) a l c := h

def addBits (x y : Nat) (w : World) : Nat :=
  match Ieee.double.add x y with
  | some r => r
  | none => Question.cut (.nanBits .f64 x y) (w.tape w.drawn (.nanBits .f64 x y))
def addDraws (x y : Nat) : Nat := match Ieee.double.add x y with | some _ => 0 | none => 1

theorem run_fadd {P : Program} (t : TypeId) (x y : Nat) (w : World) :
    Sem.run P (binOp .add t (.float .f64 x) (.float .f64 y)) w = .ok (.float .f64 (addBits x y w)) (w.drewN (addDraws x y)) := by
  unfold addBits addDraws
  cases h : Ieee.double.add x y with
  | some r =>
    have h' : FloatKind.f64.format.add x y = some r := h
    simp [binOp, Op.floatArith, h']
    rfl
  | none =>
    have h' : FloatKind.f64.format.add x y = none := h
    simp [binOp, Op.floatArith, h', choose, Sem.run, Question.forced]
    rfl

theorem cut_nan (x y t : Nat) : Question.cut (.nanBits .f64 x y) t < 18446744073709551616 ∧ isNanN (Question.cut (.nanBits .f64 x y) t) = true := by
  unfold Question.cut isNanN infR rungN half
  simp only [decide_eq_true_eq]
  have : (2:Nat) ^ 63 = 9223372036854775808 := by decide
  have h2 : (2:Nat) ^ 52 = 4503599627370496 := by decide
  rw [this, h2]
  have h3 := Nat.mod_lt (t / 2) (show 0 < 4503599627370496 - 1 by decide)
  generalize t / 2 % (4503599627370496 - 1) = u at *
  have h4 := Nat.mod_lt t (show 0 < 2 by decide)
  generalize t % 2 = v at *
  omega

theorem addBits_lt (x y : Nat) (w : World) : addBits x y w < 18446744073709551616 := by
  unfold addBits
  split
  · rename_i r h; exact (add_some x y r h).2
  · exact (cut_nan _ _ _).1

theorem addBits_canon (x y : Nat) (w : World) : canonN (addBits x y w) = sumStep (canonN x) y := by
  rw [sumStep_canon]
  unfold addBits sumStep
  split
  · rename_i r h; rw [h, canon_of_not _ (add_some x y r h).1]; rfl
  · rename_i h; rw [h, canon_of_nan _ (cut_nan _ _ _).2]; rfl

/-- What the sum is behind the first k + 1 numbers. -/
theorem sum_next (x : Nat) (l : List Nat) (k : Nat) (h : k < l.length) :
    (l.take (k + 1)).foldl sumStep (canonN x) = sumStep ((l.take k).foldl sumStep (canonN x)) (l[k]?.getD 0) := by
  rw [List.take_succ_eq_append_getElem h, List.foldl_append, List.getElem?_eq_getElem h]
  rfl

attribute [local go_sem] run_fadd r30 r24

theorem idx (l : List Nat) (x : Nat) (k : Nat) : (x :: l)[k + 1]?.getD 0 = l[k]?.getD 0 := rfl
theorem getD_lt {l : List Nat} (h : ∀ x ∈ l, x < 18446744073709551616) (k : Nat) : l[k]?.getD 0 < 18446744073709551616 := by
  rcases hk : l[k]? with _ | y
  · simp
  · simpa using h y (List.mem_of_getElem? hk)

def SumRel (x : Nat) (l : List Nat) (w : World) (f i : Value) (wr : World) : Prop :=
  ∃ k y : Nat, k ≤ l.length ∧ i = .int .i64 k ∧ f = .float .f64 y ∧ y < 18446744073709551616 ∧ canonN y = (l.take k).foldl sumStep (canonN x) ∧ ∃ n, wr = w.drewN n
theorem SumRel.next {x : Nat} {l : List Nat} {w : World} {k y n z : Nat} (hk : k < l.length) (hz : z = l[k]?.getD 0) (hy : canonN y = (l.take k).foldl sumStep (canonN x)) :
    SumRel x l w (.float .f64 (addBits y z (w.drewN n))) (.int .i64 ((k : Int) + 1)) (w.drewN (n + addDraws y z)) :=
  ⟨k + 1, _, by omega, rfl, rfl, addBits_lt _ _ _, by rw [addBits_canon, hy, hz, sum_next _ _ _ hk], _, rfl⟩
def SumEnd (x : Nat) (l : List Nat) (w : World) (e : Ending) (w' : World) : Prop := e = .returned (.int .u64 ((canonN (sumN (x :: l)) : Nat) : Int)) ∧ ∃ n, w' = w.drewN n
theorem SumEnd.of {x : Nat} {l : List Nat} {w : World} {n y : Nat} (hy : canonN y = (l.take l.length).foldl sumStep (canonN x)) :
    SumEnd x l w (.returned (.int .u64 ((canonN y : Nat) : Int))) (w.drewN n) := by
  refine ⟨?_, n, rfl⟩
  rw [List.take_length] at hy
  show _ = Ending.returned (.int .u64 ((canonN (l.foldl sumStep (canonN x)) : Nat) : Int))
  rw [← hy, canon_canon]

theorem c18 (l : List Nat) (a : Option Addr) (c : Nat) (w : World) (h : Reads w a l c) :
    Calls Try.prog 18 #[.slice a l.length c] w fun e w' => e = .returned (.int .u64 ((canonN (sumN l) : Nat) : Int)) ∧ ∃ n, w' = w.drewN n := by
  obtain ⟨h1, h2, h3, h4⟩ := h
  unfold maxLen at h2
  cases l with
  | nil =>
    clear h1 h2 h3 h4
    refine gen fun R hR => ?_
    have e0 : ((([] : List Nat).length : Int) == 0) = true := rfl
    go_enter Try.func18, Try.ntmps18
    go_wp2
    all_goals exact ⟨rfl, 0, rfl⟩
  | cons x l =>
    obtain ⟨b, o, rfl, h5⟩ := h4 (by simp)
    refine gen (S := SumEnd x l w) fun R hR => ?_
    have g0 := h5 0 (by simp)
    simp only [Nat.add_zero] at g0
    have g0' : w.cell? ⟨b, o, none⟩ = some (.int .u64 (x : Int)) := g0
    have hx := Lib.hid (h3 x (by simp))
    have G : ∀ i, i < l.length → w.cell? ⟨b, o + 1 + i, none⟩ = some (.int .u64 ((l[i]?.getD 0 : Nat) : Int)) := by
      intro i hi
      have := h5 (i + 1) (by simp; omega)
      rw [idx] at this
      rw [show o + 1 + i = o + (i + 1) by omega]
      exact this
    have H := Lib.hid G
    have H3 := Lib.hid (fun y (hy : y ∈ l) => h3 y (List.mem_cons_of_mem _ hy))
    clear h5 h3 h4 g0 G
    have e0 : (((l.length : Int) + 1) == 0) = false := by simp; omega
    simp only [List.length_cons] at *
    by_cases hc : c = 1
    · subst hc
      obtain rfl : l = [] := List.eq_nil_of_length_eq_zero (by omega)
      go_enter Try.func18, Try.ntmps18
      go_wp2
      go_loopw [3, 16] (fun f i wr => f = .float .f64 x ∧ i = .int .i64 0 ∧ wr = w) (fun _ _ _ => 0)
      case atStart => exact ⟨rfl, rfl, rfl⟩
      case round =>
        obtain ⟨rfl, rfl, rfl⟩ := hrel
        go_wp2_with (go_at_call 11; (with_reducible refine (c11 (x : Nat) _ (U64.of _ hx.out)).mono ?_); rintro e w' ⟨rfl, rfl⟩)
        all_goals exact SumEnd.of (x := x) (l := []) (n := 0) rfl
    · have hc' : (c = 1) = False := by simpa using hc
      clear hc
      go_enter Try.func18, Try.ntmps18
      go_wp2
      go_loopw [3, 16] (SumRel x l w) (fun _ i _ => l.length - (intOf i).toNat)
      case atStart => exact ⟨0, x, by omega, rfl, rfl, hx.out, rfl, 0, rfl⟩
      case round =>
        obtain ⟨k, y, hk, rfl, rfl, hy, hs, n, rfl⟩ := hrel
        have HY := Lib.hid hy
        have HSS := Lib.hid hs
        clear hy hs
        by_cases hlt : k < l.length
        · have hcell := H.out k hlt
          go_wp2
          go_roundw
          case rel => exact SumRel.next hlt (by simp [hlt]) HSS.out
          case measure => simp [intOf]; omega
        · obtain rfl : k = l.length := by omega
          go_wp2_with (go_at_call 11; (with_reducible refine (c11 (y : Nat) _ (U64.of _ HY.out)).mono ?_); rintro e w' ⟨rfl, rfl⟩)
          all_goals exact SumEnd.of HSS.out

/-- The reference's sum: the index runs from 1. -/
def SumRel2 (x : Nat) (l : List Nat) (w : World) (f i : Value) (wr : World) : Prop :=
  ∃ k y : Nat, k ≤ l.length ∧ i = .int .i64 ((k : Int) + 1) ∧ f = .float .f64 y ∧ y < 18446744073709551616 ∧ canonN y = (l.take k).foldl sumStep (canonN x) ∧ ∃ n, wr = w.drewN n
theorem SumRel2.next {x : Nat} {l : List Nat} {w : World} {k y n z : Nat} (hk : k < l.length) (hz : z = l[k]?.getD 0) (hy : canonN y = (l.take k).foldl sumStep (canonN x)) :
    SumRel2 x l w (.float .f64 (addBits y z (w.drewN n))) (.int .i64 ((k : Int) + 1 + 1)) (w.drewN (n + addDraws y z)) :=
  ⟨k + 1, _, by omega, rfl, rfl, addBits_lt _ _ _, by rw [addBits_canon, hy, hz, sum_next _ _ _ hk], _, rfl⟩
theorem c23 (l : List Nat) (a : Option Addr) (c : Nat) (w : World) (h : Reads w a l c) :
    Calls Try.prog 23 #[.slice a l.length c] w fun e w' => e = .returned (.int .u64 ((canonN (sumN l) : Nat) : Int)) ∧ ∃ n, w' = w.drewN n := by
  obtain ⟨h1, h2, h3, h4⟩ := h
  unfold maxLen at h2
  cases l with
  | nil =>
    clear h1 h2 h3 h4
    refine gen fun R hR => ?_
    have e0 : ((([] : List Nat).length : Int) == 0) = true := rfl
    go_enter Try.func23, Try.ntmps23
    go_wp2
    all_goals exact ⟨rfl, 0, rfl⟩
  | cons x l =>
    obtain ⟨b, o, rfl, h5⟩ := h4 (by simp)
    refine gen (S := SumEnd x l w) fun R hR => ?_
    have g0 := h5 0 (by simp)
    simp only [Nat.add_zero] at g0
    have g0' : w.cell? ⟨b, o, none⟩ = some (.int .u64 (x : Int)) := g0
    have hx := Lib.hid (h3 x (by simp))
    have G : ∀ i, i < l.length → w.cell? ⟨b, o + (i + 1), none⟩ = some (.int .u64 ((l[i]?.getD 0 : Nat) : Int)) := by
      intro i hi
      have := h5 (i + 1) (by simp; omega)
      rw [idx] at this
      exact this
    have H := Lib.hid G
    have H3 := Lib.hid (fun y (hy : y ∈ l) => h3 y (List.mem_cons_of_mem _ hy))
    clear h5 h3 h4 g0 G
    have e0 : (((l.length : Int) + 1) == 0) = false := by simp; omega
    simp only [List.length_cons] at *
    go_enter Try.func23, Try.ntmps23
    go_wp2
    go_loopw [3, 4] (SumRel2 x l w) (fun _ i _ => l.length + 1 - (intOf i).toNat)
    case atStart => exact ⟨0, x, by omega, rfl, rfl, hx.out, rfl, 0, rfl⟩
    case round =>
      obtain ⟨k, y, hk, rfl, rfl, hy, hs, n, rfl⟩ := hrel
      have HY := Lib.hid hy
      have HSS := Lib.hid hs
      clear hy hs
      by_cases hlt : k < l.length
      · have hcell := H.out k hlt
        go_wp2
        go_roundw
        case rel => exact SumRel2.next hlt (by simp [hlt]) HSS.out
        case measure => simp [intOf]; omega
      · obtain rfl : k = l.length := by omega
        go_wp2_with (go_at_call 12; (with_reducible refine (c12 (y : Nat) _ (U64.of _ HY.out)).mono ?_); rintro e w' ⟨rfl, rfl⟩)
        all_goals exact SumEnd.of HSS.out

/-! ### The first one by a sign -/
def better (sign : Int) (b best : Nat) : Bool := orderN b best == sign
def pickStep (sign : Int) (best b : Nat) : Nat := if better sign b best then b else best
def pickN (sign : Int) (l : List Nat) : Option Nat := match l with | [] => none | a :: r => some (r.foldl (pickStep sign) a)
def pickV (o : Option Nat) : Ending := match o with
  | none => .returned (.tuple #[.int .u64 0, .bool false])
  | some b => .returned (.tuple #[.int .u64 ((canonN b : Nat) : Int), .bool true])

theorem pick_next (sign : Int) (x : Nat) (l : List Nat) (k : Nat) (h : k < l.length) :
    (l.take (k + 1)).foldl (pickStep sign) x = pickStep sign ((l.take k).foldl (pickStep sign) x) (l[k]?.getD 0) := by
  rw [List.take_succ_eq_append_getElem h, List.foldl_append, List.getElem?_eq_getElem h]
  rfl
theorem pickStep_or (sign : Int) (x y : Nat) : pickStep sign x y = x ∨ pickStep sign x y = y := by
  unfold pickStep; split <;> simp
theorem pick_mem (sign : Int) (x : Nat) (l : List Nat) : l.foldl (pickStep sign) x = x ∨ l.foldl (pickStep sign) x ∈ l := by
  induction l generalizing x with
  | nil => exact .inl rfl
  | cons y l ih =>
    simp only [List.foldl_cons]
    rcases ih (pickStep sign x y) with h | h
    · rcases pickStep_or sign x y with e | e
      · left; rw [h, e]
      · right; rw [h, e]; exact List.mem_cons_self
    · right; exact List.mem_cons_of_mem _ h
theorem pick_lt (sign : Int) (x : Nat) (l : List Nat) (h : ∀ y ∈ x :: l, y < 18446744073709551616) : l.foldl (pickStep sign) x < 18446744073709551616 := by
  rcases pick_mem sign x l with e | e
  · rw [e]; exact h x (by simp)
  · exact h _ (List.mem_cons_of_mem _ e)

theorem mem_take {x z k : Nat} {l : List Nat} (hz : z ∈ x :: l.take k) : z ∈ x :: l := by
  rcases List.mem_cons.1 hz with h | h
  · rw [h]; exact List.mem_cons_self
  · exact List.mem_cons_of_mem _ (List.mem_of_mem_take h)
theorem PickRel_next {sign : Int} {x : Nat} {l : List Nat} {k y z : Nat} (hk : k < l.length) (hz : z = l[k]?.getD 0) (hs : y = (l.take k).foldl (pickStep sign) x) :
    pickStep sign y z = (l.take (k + 1)).foldl (pickStep sign) x := by rw [pick_next _ _ _ _ hk, ← hs, hz]
theorem step_yes {sign : Int} {y b : Nat} (h : (orderN b y == sign) = true) : pickStep sign y b = b := by unfold pickStep better; rw [h]; rfl
theorem step_no {sign : Int} {y b : Nat} (h : (orderN b y == sign) = false) : pickStep sign y b = y := by unfold pickStep better; rw [h]; rfl
def PickRel (sign : Int) (x : Nat) (l : List Nat) (f i : Value) : Prop :=
  ∃ k y : Nat, k ≤ l.length ∧ i = .int .i64 k ∧ f = .int .u64 y ∧ y = (l.take k).foldl (pickStep sign) x
def PickEnd (sign : Int) (x : Nat) (l : List Nat) (w : World) (e : Ending) (w' : World) : Prop := e = pickV (pickN sign (x :: l)) ∧ w = w'

theorem c31 (sign : Int) (l : List Nat) (a : Option Addr) (c : Nat) (w : World) (h : Reads w a l c) :
    Calls Try.prog 31 #[.slice a l.length c, .int .i64 sign] w fun e w' => e = pickV (pickN sign l) ∧ w = w' := by
  obtain ⟨h1, h2, h3, h4⟩ := h
  unfold maxLen at h2
  cases l with
  | nil =>
    clear h1 h2 h3 h4
    refine gen fun R hR => ?_
    have e0 : ((([] : List Nat).length : Int) == 0) = true := rfl
    go_enter Try.func31, Try.ntmps31
    go_wp2
    all_goals exact rfl
  | cons x l =>
    obtain ⟨b, o, rfl, h5⟩ := h4 (by simp)
    refine gen (S := PickEnd sign x l w) fun R hR => ?_
    have g0 := h5 0 (by simp)
    simp only [Nat.add_zero] at g0
    have g0' : w.cell? ⟨b, o, none⟩ = some (.int .u64 (x : Int)) := g0
    have hx := Lib.hid h3
    have G : ∀ i, i < l.length → w.cell? ⟨b, o + 1 + i, none⟩ = some (.int .u64 ((l[i]?.getD 0 : Nat) : Int)) := by
      intro i hi
      have := h5 (i + 1) (by simp; omega)
      rw [idx] at this
      rw [show o + 1 + i = o + (i + 1) by omega]
      exact this
    have H := Lib.hid G
    clear h5 h3 h4 g0 G
    have e0 : (((l.length : Int) + 1) == 0) = false := by simp; omega
    simp only [List.length_cons] at *
    by_cases hc : c = 1
    · subst hc
      obtain rfl : l = [] := List.eq_nil_of_length_eq_zero (by omega)
      go_enter Try.func31, Try.ntmps31
      go_wp2
      go_loop [6, 18] (fun f i => f = .int .u64 x ∧ i = .int .i64 0) (fun _ _ => 0)
      case atStart => exact ⟨rfl, rfl⟩
      case round =>
        obtain ⟨rfl, rfl⟩ := hrel
        go_wp2_with (go_at_call 11; (with_reducible refine (c11 (x : Nat) _ (U64.of _ (hx.out x (by simp)))).mono ?_); rintro e w' ⟨rfl, rfl⟩)
        all_goals exact ⟨rfl, rfl⟩
    · have hc' : (c = 1) = False := by simpa using hc
      clear hc
      go_enter Try.func31, Try.ntmps31
      go_wp2
      go_loop [6, 18] (PickRel sign x l) (fun _ i => l.length - (intOf i).toNat)
      case atStart => exact ⟨0, x, by omega, rfl, rfl, rfl⟩
      case round =>
        obtain ⟨k, y, hk, rfl, rfl, hs⟩ := hrel
        have HSS := Lib.hid hs
        have hy : y < 18446744073709551616 := by
          rw [hs]; exact pick_lt _ _ _ (fun z hz => hx.out z (mem_take hz))
        have HY := Lib.hid hy
        clear hy hs
        by_cases hlt : k < l.length
        · have hcell := H.out k hlt
          have hz := Lib.hid (hx.out (l[k]) (List.mem_cons_of_mem _ (List.getElem_mem hlt)))
          go_wp2_with (go_at_call 15; (with_reducible refine (c15 (l[k] : Nat) (y : Nat) _ (U64.of _ hz.out) (U64.of _ HY.out)).mono ?_); rintro e w' ⟨rfl, rfl⟩)
          all_goals
            have e := PickRel_next (sign := sign) hlt (by simp [hlt]) HSS.out (z := l[k])
            refine ⟨⟨k + 1, _, by omega, rfl, rfl, ?_⟩, by simp [intOf]; omega⟩
            first
              | (rw [step_yes ‹(orderN l[k] y == sign) = true›] at e; exact e)
              | (rw [step_no ‹(orderN l[k] y == sign) = false›] at e; exact e)
        · obtain rfl : k = l.length := by omega
          go_wp2_with (go_at_call 11; (with_reducible refine (c11 (y : Nat) _ (U64.of _ HY.out)).mono ?_); rintro e w' ⟨rfl, rfl⟩)
          all_goals
            have e := HSS.out
            rw [List.take_length] at e
            exact ⟨by rw [e]; rfl, rfl⟩
end Go.Proofs.Ytkngfhnjimdcjaa
