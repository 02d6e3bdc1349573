/- What the reference's Least and Most compute, and the package's. Conditions: the slice's cells hold uint64 numbers. -/
import Derived.Test.YtkngfhnjimdcjaaSums
namespace Go.Proofs.Ytkngfhnjimdcjaa
open Go.ChangeShapes Go.WideShapes Go.ChangeAt Go.RowKit

theorem c19 (l : List Nat) (a : Option Addr) (c : Nat) (w : World) (h : Reads w a l c) :
    Calls Try.prog 19 #[.slice a l.length c] w fun e w' => e = pickV (pickN (-1) l) ∧ w = w' := by
  have H := Lib.hid h
  clear h
  have C := fun w h => c31 (-1) l a c w h
  generalize pickN (-1) l = r at *
  have D := Lib.hid C
  clear C
  refine gen fun R hR => ?_
  cases r <;> unfold pickV at *
  all_goals
    go_enter Try.func19, Try.ntmps19
    go_wp2_with (go_at_call 31; (with_reducible refine (D.out _ H.out).mono ?_); rintro e w' ⟨rfl, rfl⟩)
    all_goals exact rfl
theorem c21 (l : List Nat) (a : Option Addr) (c : Nat) (w : World) (h : Reads w a l c) :
    Calls Try.prog 21 #[.slice a l.length c] w fun e w' => e = pickV (pickN 1 l) ∧ w = w' := by
  have H := Lib.hid h
  clear h
  have C := fun w h => c31 1 l a c w h
  generalize pickN 1 l = r at *
  have D := Lib.hid C
  clear C
  refine gen fun R hR => ?_
  cases r <;> unfold pickV at *
  all_goals
    go_enter Try.func21, Try.ntmps21
    go_wp2_with (go_at_call 31; (with_reducible refine (D.out _ H.out).mono ?_); rintro e w' ⟨rfl, rfl⟩)
    all_goals exact rfl

theorem c17n (x y : Nat) (w : World) (hx : x < 18446744073709551616) (hy : y < 18446744073709551616) :
    Calls Try.prog 17 #[.int .u64 (x : Int), .int .u64 (y : Int)] w fun e w' => e = .returned (.int .i64 (orderN x y)) ∧ w' = w :=
  (c17 _ _ w (U64.of _ hx) (U64.of _ hy)).mono fun _ _ ⟨h, k⟩ => ⟨h, k.symm⟩
theorem c12n (x : Nat) (w : World) (hx : x < 18446744073709551616) :
    Calls Try.prog 12 #[.int .u64 (x : Int)] w fun e w' => e = .returned (.int .u64 (canonN x : Nat)) ∧ w = w' :=
  c12 _ w (U64.of _ hx)
theorem find_at {p : Nat → Bool} {l : List Nat} {i : Nat} (h : i < l.length) (hno : ∀ y ∈ l.take i, p y = false) (hp : p l[i] = true) : l.find? p = some l[i] := by
  rw [List.find?_eq_some_iff_getElem]
  refine ⟨hp, i, h, rfl, fun j hj => ?_⟩
  have := hno l[j] (by rw [List.mem_take_iff_getElem]; exact ⟨j, by omega, rfl⟩)
  simp [this]
theorem find_none {p : Nat → Bool} {l : List Nat} (hno : ∀ y ∈ l.take l.length, p y = false) : l.find? p = none := by
  rw [List.take_length] at hno
  rw [List.find?_eq_none]
  intro x hx; simp [hno x hx]
theorem no_next {p : Nat → Bool} {l : List Nat} {i : Nat} (h : i < l.length) (hno : ∀ y ∈ l.take i, p y = false) (hp : p l[i] = false) : ∀ y ∈ l.take (i + 1), p y = false := by
  intro y hy
  rw [List.take_succ_eq_append_getElem h] at hy
  rcases List.mem_append.1 hy with hy | hy
  · exact hno y hy
  · simp at hy; rw [hy]; exact hp
theorem all_next {p : Nat → Bool} {l : List Nat} {j : Nat} (h : j < l.length) {b : Bool} (hb : (l.take j).all p = b) : (l.take (j + 1)).all p = (b && p l[j]) := by
  rw [List.take_succ_eq_append_getElem h, List.all_append, hb]; simp
/-- 'le x y': x stands to y as the one that is sought stands to all. -/
def ByB (ge : Bool) (x y : Nat) : Bool := if ge then decide (0 ≤ orderN x y) else decide (orderN x y ≤ 0)
def InRel (ge : Bool) (x : Nat) (l : List Nat) (w : World) (f k : Value) (wr : World) : Prop :=
  ∃ (j : Nat) (b : Bool), j ≤ l.length ∧ k = .int .i64 j ∧ f = .bool b ∧ (l.take j).all (ByB ge x) = b ∧ ∃ n, wr = w.drewN n
def OutRel (ge : Bool) (l : List Nat) (w : World) (i : Value) (wr : World) : Prop :=
  ∃ j : Nat, j ≤ l.length ∧ i = .int .i64 j ∧ (∀ y ∈ l.take j, l.all (ByB ge y) = false) ∧ ∃ n, wr = w.drewN n
def FirstEnd (ge : Bool) (l : List Nat) (w : World) (e : Ending) (w' : World) : Prop := e = pickV (l.find? fun x => l.all (ByB ge x)) ∧ ∃ n, w' = w.drewN n

theorem c20 (l : List Nat) (a : Option Addr) (c : Nat) (w : World) (h : Reads w a l c) :
    Calls Try.prog 20 #[.slice a l.length c] w (FirstEnd false l w) := by
  obtain ⟨h1, h2, h3, h4⟩ := h
  unfold maxLen at h2
  have H3 := Lib.hid h3
  have H4 := Lib.hid h4
  clear h3 h4
  refine gen fun R hR => ?_
  have HR := Lib.hid hR
  clear hR
  go_enter Try.func20, Try.ntmps20
  go_wp2
  go_loopw [4] (OutRel false l w) (fun i _ => l.length - (intOf i).toNat)
  case atStart => exact ⟨0, by omega, rfl, by simp, 0, rfl⟩
  case round =>
    obtain ⟨i, hi, rfl, hno, n, hn⟩ := hrel
    have HNO := Lib.hid hno
    have HN1 := Lib.hid hn
    clear hno hn
    by_cases hlt : i < l.length
    · have hx := Lib.hid (H3.out l[i] (List.getElem_mem hlt))
      obtain ⟨b, o, ha, hc⟩ := H4.out (by omega)
      subst ha
      have HC := Lib.hid hc
      clear hc
      obtain ⟨wo, rfl⟩ : ∃ wo : World, wo = wr := ⟨_, rfl⟩
      go_wp2
      go_loopw [5, 6] (InRel false l[i] l w) (fun _ k _ => l.length - (intOf k).toNat)
      case atStart => exact ⟨0, true, by omega, rfl, rfl, rfl, n, HN1.out⟩
      case round =>
        obtain ⟨j, f, hj, rfl, rfl, hb, n2, hn2⟩ := hrel
        have HN := Lib.hid hn2
        have HB := Lib.hid hb
        have hcell1 : wr.cell? ⟨b, o + i, none⟩ = some (.int .u64 ((l[i]?.getD 0 : Nat) : Int)) := by rw [hn2]; exact HC.out i hlt
        clear hb
        by_cases hjl : j < l.length
        · have hcell3 : wr.cell? ⟨b, o + j, none⟩ = some (.int .u64 ((l[j]?.getD 0 : Nat) : Int)) := by rw [hn2]; exact HC.out j hjl
          clear hn2
          have hy := Lib.hid (H3.out l[j] (List.getElem_mem hjl))
          cases f
          all_goals
            go_wp2
            go_quiet ((go_at_call 17; exact Calls.quiet_of_same (c17n _ _ _ hx.out hy.out)))
            go_wp2
            all_goals
              go_tidy
              exact ⟨⟨j + 1, _, by omega, rfl, rfl, all_next hjl HB.out, n2 + nq, by rw [HN.out, World.drewN_drewN]⟩, by simp [intOf]; omega⟩
        · obtain rfl : j = l.length := by omega
          clear hn2
          cases f
          all_goals
            go_wp2_with (go_at_call 12; (with_reducible refine (c12n _ _ hx.out).mono ?_); rintro e w' ⟨rfl, rfl⟩)
          all_goals
            go_tidy
            have hb := HB.out
            rw [List.take_length] at hb
          · exact ⟨⟨i + 1, by omega, rfl, no_next hlt HNO.out hb, n2, HN.out⟩, by simp [intOf]; omega⟩
          · exact HR.out _ _ ⟨by rw [find_at hlt HNO.out hb]; rfl, n2, HN.out⟩
    · obtain rfl : i = l.length := by omega
      have hR := HR.out
      go_wp2
      all_goals exact ⟨by rw [find_none HNO.out]; rfl, n, HN1.out⟩

theorem c22 (l : List Nat) (a : Option Addr) (c : Nat) (w : World) (h : Reads w a l c) :
    Calls Try.prog 22 #[.slice a l.length c] w (FirstEnd true l w) := by
  obtain ⟨h1, h2, h3, h4⟩ := h
  unfold maxLen at h2
  have H3 := Lib.hid h3
  have H4 := Lib.hid h4
  clear h3 h4
  refine gen fun R hR => ?_
  have HR := Lib.hid hR
  clear hR
  go_enter Try.func22, Try.ntmps22
  go_wp2
  go_loopw [4] (OutRel true l w) (fun i _ => l.length - (intOf i).toNat)
  case atStart => exact ⟨0, by omega, rfl, by simp, 0, rfl⟩
  case round =>
    obtain ⟨i, hi, rfl, hno, n, hn⟩ := hrel
    have HNO := Lib.hid hno
    have HN1 := Lib.hid hn
    clear hno hn
    by_cases hlt : i < l.length
    · have hx := Lib.hid (H3.out l[i] (List.getElem_mem hlt))
      obtain ⟨b, o, ha, hc⟩ := H4.out (by omega)
      subst ha
      have HC := Lib.hid hc
      clear hc
      obtain ⟨wo, rfl⟩ : ∃ wo : World, wo = wr := ⟨_, rfl⟩
      go_wp2
      go_loopw [5, 6] (InRel true l[i] l w) (fun _ k _ => l.length - (intOf k).toNat)
      case atStart => exact ⟨0, true, by omega, rfl, rfl, rfl, n, HN1.out⟩
      case round =>
        obtain ⟨j, f, hj, rfl, rfl, hb, n2, hn2⟩ := hrel
        have HN := Lib.hid hn2
        have HB := Lib.hid hb
        have hcell1 : wr.cell? ⟨b, o + i, none⟩ = some (.int .u64 ((l[i]?.getD 0 : Nat) : Int)) := by rw [hn2]; exact HC.out i hlt
        clear hb
        by_cases hjl : j < l.length
        · have hcell3 : wr.cell? ⟨b, o + j, none⟩ = some (.int .u64 ((l[j]?.getD 0 : Nat) : Int)) := by rw [hn2]; exact HC.out j hjl
          clear hn2
          have hy := Lib.hid (H3.out l[j] (List.getElem_mem hjl))
          cases f
          all_goals
            go_wp2
            go_quiet ((go_at_call 17; exact Calls.quiet_of_same (c17n _ _ _ hx.out hy.out)))
            go_wp2
            all_goals
              go_tidy
              exact ⟨⟨j + 1, _, by omega, rfl, rfl, all_next hjl HB.out, n2 + nq, by rw [HN.out, World.drewN_drewN]⟩, by simp [intOf]; omega⟩
        · obtain rfl : j = l.length := by omega
          clear hn2
          cases f
          all_goals
            go_wp2_with (go_at_call 12; (with_reducible refine (c12n _ _ hx.out).mono ?_); rintro e w' ⟨rfl, rfl⟩)
          all_goals
            go_tidy
            have hb := HB.out
            rw [List.take_length] at hb
          · exact ⟨⟨i + 1, by omega, rfl, no_next hlt HNO.out hb, n2, HN.out⟩, by simp [intOf]; omega⟩
          · exact HR.out _ _ ⟨by rw [find_at hlt HNO.out hb]; rfl, n2, HN.out⟩
    · obtain rfl : i = l.length := by omega
      have hR := HR.out
      go_wp2
      all_goals exact ⟨by rw [find_none HNO.out]; rfl, n, HN1.out⟩


theorem pick_best (sign : Int) (x : Nat) (l : List Nat) (hs : sign = -1 ∨ sign = 1) :
    ∀ y ∈ x :: l, ByB (decide (sign = 1)) (l.foldl (pickStep sign) x) y = true := by
  have key : ∀ (l : List Nat) (x : Nat), (∀ y ∈ x :: l, if sign = 1 then keyN y ≤ keyN (l.foldl (pickStep sign) x) else keyN (l.foldl (pickStep sign) x) ≤ keyN y) := by
    intro l
    induction l with
    | nil => intro x y hy; simp at hy; subst hy; split <;> exact Nat.le_refl _
    | cons z l ih =>
      intro x y hy
      have h0 := ih (pickStep sign x z)
      have hm := h0 (pickStep sign x z) List.mem_cons_self
      have hst : if sign = 1 then keyN x ≤ keyN (pickStep sign x z) ∧ keyN z ≤ keyN (pickStep sign x z) else keyN (pickStep sign x z) ≤ keyN x ∧ keyN (pickStep sign x z) ≤ keyN z := by
        have ho := order_sign z x
        unfold pickStep better
        rcases hs with rfl | rfl
        · simp only [show ¬ ((-1 : Int) = 1) by decide, if_false, beq_iff_eq]
          split <;> omega
        · simp only [if_true, beq_iff_eq]
          split <;> omega
      simp only [List.foldl_cons]
      rcases List.mem_cons.1 hy with rfl | hy
      · by_cases h : sign = 1
        · rw [if_pos h] at hm hst ⊢; omega
        · rw [if_neg h] at hm hst ⊢; omega
      · rcases List.mem_cons.1 hy with rfl | hy
        · by_cases h : sign = 1
          · rw [if_pos h] at hm hst ⊢; omega
          · rw [if_neg h] at hm hst ⊢; omega
        · exact h0 y (List.mem_cons_of_mem _ hy)
  intro y hy
  have h := key l x y hy
  have ho := order_sign (l.foldl (pickStep sign) x) y
  unfold ByB
  rcases hs with rfl | rfl
  · simp only [show ¬ ((-1 : Int) = 1) by decide, if_false, decide_false, Bool.false_eq_true] at h ⊢
    simp only [decide_eq_true_eq]; omega
  · simp only [if_true, decide_true] at h ⊢
    simp only [decide_eq_true_eq]; omega

/-- The package's choice and the reference's are one, canonically. -/
theorem pick_find (sign : Int) (l : List Nat) (hl : ∀ x ∈ l, x < 18446744073709551616) (hs : sign = -1 ∨ sign = 1) :
    pickV (l.find? fun x => l.all (ByB (decide (sign = 1)) x)) = pickV (pickN sign l) := by
  cases l with
  | nil => rfl
  | cons x l =>
    have hb := pick_best sign x l hs
    have hmem : l.foldl (pickStep sign) x ∈ x :: l := by
      rcases pick_mem sign x l with h | h
      · rw [h]; exact List.mem_cons_self
      · exact List.mem_cons_of_mem _ h
    generalize hm : l.foldl (pickStep sign) x = m at *
    show _ = pickV (some (l.foldl (pickStep sign) x))
    rw [hm]
    cases hf : (x :: l).find? (fun y => (x :: l).all (ByB (decide (sign = 1)) y)) with
    | none =>
      rw [List.find?_eq_none] at hf
      have := hf m hmem
      simp only [List.all_eq_true] at this
      exact absurd hb this
    | some y =>
      have hy := List.find?_some hf
      have hym := List.mem_of_find?_eq_some hf
      simp only [List.all_eq_true] at hy
      have h1 := hy m hmem
      have h2 := hb y hym
      have e : keyN y = keyN m := by
        have o1 := order_sign y m
        have o2 := order_sign m y
        unfold ByB at h1 h2
        rcases hs with rfl | rfl
        · simp only [show ¬ ((-1 : Int) = 1) by decide, decide_false, Bool.false_eq_true, if_false, decide_eq_true_eq] at h1 h2; omega
        · simp only [decide_true, if_true, decide_eq_true_eq] at h1 h2; omega
      have ec := (key_canon y m (hl y hym) (hl m hmem)).1 e
      show Ending.returned (.tuple #[.int .u64 ((canonN y : Nat) : Int), .bool true]) = Ending.returned (.tuple #[.int .u64 ((canonN m : Nat) : Int), .bool true])
      rw [ec]
end Go.Proofs.Ytkngfhnjimdcjaa
