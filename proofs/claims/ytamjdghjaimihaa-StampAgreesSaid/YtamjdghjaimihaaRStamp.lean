/- The reference: one that waits; its stamp. Conditions: each law's own. -/
import Derived.Test.YtamjdghjaimihaaQLearn2
import Derived.Test.YtamjdghjaimihaaFlow
namespace Go.Proofs.Ytamjdghjaimihaa
open Go.ChangeShapes Go.WideShapes Go.ChangeAt Go.RowKit

/-- One that waits, as the reference keeps it: its data, and the slice of its groups. -/
abbrev RefO := OneD × Value
def encR (y : RefO) : List Value := [.int .i64 y.1.id.s, .int .i64 y.1.id.q, y.2, .int .u64 (y.1.kn 0), .int .u64 (y.1.kn 1), .int .u64 (y.1.kn 2), .int .u64 (y.1.kn 3)]
def oneV (y : RefO) : Value := .agg #[.int .i64 y.1.id.s, .int .i64 y.1.id.q, y.2, .int .u64 (y.1.kn 0), .int .u64 (y.1.kn 1), .int .u64 (y.1.kn 2), .int .u64 (y.1.kn 3)]
theorem inf55 : (Try.prog.info? 55).map (fun i => (i.zero, i.size, i.bytes)) = some (some (.agg #[.int .i64 0, .int .i64 0, .slice none 0 0, .int .u64 0, .int .u64 0, .int .u64 0, .int .u64 0]), 7, 72) := by kernel_rfl
theorem und47 : Try.prog.underlying 47 = some (.slice 55) := by kernel_rfl

set_option maxRecDepth 100000 in
theorem c38 {w : World} {v : Value} {xs : List Int} (h : RowOf encG 1 w v xs) (g : Int) : Calls Try.prog 38 #[v, .int .i64 g] w fun e w' => e = .returned (.bool (decide (g ∈ xs))) ∧ w' = w := by
  refine gen fun R hR => ?_
  have hln := h.len
  unfold maxLen at hln
  obtain ⟨a, cap, rfl, -⟩ := id h
  have H := Lib.hid h
  have HR := Lib.hid hR
  clear h hR
  go_enter Try.func38, Try.ntmps38
  go_wp2
  go_loop [5] (fun i => ∃ m : Nat, m ≤ xs.length ∧ i = .int .i64 m ∧ ∀ (k : Nat) y, k < m → xs[k]? = some y → y ≠ g) (fun i => xs.length - (intOf i).toNat)
  case atStart => exact ⟨0, by omega, rfl, fun k y hk => by omega⟩
  case round =>
    obtain ⟨m, hm, rfl, hno⟩ := hrel
    have HN := Lib.hid hno
    clear hno
    rcases Nat.lt_or_ge m xs.length with hlt | hge
    · obtain ⟨b, o, x, rfl, hbl, hx, hc⟩ := H.out.gAt hlt
      have hmI : (m : Int) < (xs.length : Int) := by omega
      have HX := Lib.hid hx
      have HLT := Lib.hid hlt
      clear hx hlt
      by_cases he : x = g
      · subst he
        go_wp2
        go_tidy
        exact HR.out _ _ ⟨by rw [decide_eq_true (List.mem_of_getElem? HX.out)], rfl⟩
      · have hne : (x == g) = false := by simpa using fun e : x = g => he e
        have HE := Lib.hid he
        clear he
        go_wp2
        go_tidy
        refine ⟨⟨m + 1, HLT.out, rfl, fun k y hk hy => ?_⟩, by have := HLT.out; simp [intOf]; omega⟩
        rcases Nat.lt_or_ge k m with h1 | h1
        · exact HN.out k y h1 hy
        · obtain rfl : k = m := by omega
          rw [HX.out] at hy; cases hy; exact HE.out
    · obtain rfl : m = xs.length := by omega
      go_wp2
      go_tidy
      refine HR.out _ _ ⟨?_, rfl⟩
      rw [decide_eq_false]
      intro hg
      obtain ⟨k, hk⟩ := List.getElem?_of_mem hg
      exact HN.out k g (List.getElem?_eq_some_iff.1 hk).1 hk rfl
theorem c23 (a b : IdD) (w : World) : Calls Try.prog 23 #[.agg #[.int .i64 a.s, .int .i64 a.q], .agg #[.int .i64 b.s, .int .i64 b.q]] w fun e w' => e = .returned (.bool (lessId a b)) ∧ Below w.heap.size w w' := by
  obtain ⟨s, q⟩ := a
  obtain ⟨u, v⟩ := b
  refine gen fun R hR => ?_
  have hb : Below w.heap.size w ((w.alloc (.cells #[.int .i64 s, .int .i64 q] 31)).alloc (.cells #[.int .i64 u, .int .i64 v] 31)) := ((Below.refl _ _).alloc (Nat.le_refl _) _).alloc (by simp) _
  have END := Lib.hid (fun r (h : r = lessId ⟨s, q⟩ ⟨u, v⟩) => hR (.returned (.bool r)) _ ⟨by rw [h], hb⟩)
  clear hR hb
  by_cases h1 : s = u
  · subst h1
    go_enter Try.func23, Try.ntmps23
    go_wp2
    go_tidy
    exact END.out _ (by unfold lessId; simp)
  · have h1b : (s != u) = true := by simpa using h1
    go_enter Try.func23, Try.ntmps23
    go_wp2
    go_tidy
    exact END.out _ (by unfold lessId; simp [h1])
/-! ### Final -/
def FinalEnd (f : Bool) (w : World) (e : Ending) (w' : World) : Prop := e = .returned (.bool f) ∧ Below w.heap.size w w'
/-- What holds of one's groups. -/
structure GOk (y : RefO) (w : World) : Prop where
  row : RowOf encG 1 w y.2 y.1.groups
  range : ∀ h ∈ y.1.groups, 0 ≤ h ∧ h < 4
theorem GOk.below {y : RefO} {w w' : World} (h : GOk y w) (hb : Below w.heap.size w w') : GOk y w' := ⟨h.row.keep hb, h.range⟩
set_option maxHeartbeats 4000000 in
set_option maxRecDepth 100000 in
theorem c44 {w : World} {y : RefO} (h : GOk y w) : Calls Try.prog 44 #[oneV y] w (FinalEnd (final y.1) w) := by
  refine gen (S := FinalEnd (final y.1) w) fun R hR => ?_
  obtain ⟨⟨id, groups, kn⟩, v⟩ := y
  have hln := h.row.len
  unfold maxLen at hln
  obtain ⟨a, cap, hv, -⟩ := _root_.id h.row
  simp only at hv hln
  subst hv
  have hb : Below w.heap.size w (w.alloc (.cells (encR (⟨id, groups, kn⟩, .slice a groups.length cap)).toArray 55)) := (Below.refl _ _).alloc (Nat.le_refl _) _
  have hI := VarAt.new w 55 (encR (⟨id, groups, kn⟩, .slice a groups.length cap))
  have hrow := (h.row.keep hb)
  have HG := Lib.hid h.range
  have END := Lib.hid (fun r (hr : r = final ⟨id, groups, kn⟩) => hR (.returned (.bool r)) _ ⟨by rw [hr], hb⟩)
  unfold encR at hI hrow hb
  simp only [oneV] at hI hrow hb ⊢
  have c2 := hI.cell (j := 2) rfl
  have c3 := hI.cell (j := 3) rfl
  have c4 := hI.cell (j := 4) rfl
  have c5 := hI.cell (j := 5) rfl
  have c6 := hI.cell (j := 6) rfl
  have H := Lib.hid hrow
  clear h hR hb hI hrow
  go_enter Try.func44, Try.ntmps44
  go_wp2
  go_loop [3] (fun i => ∃ m : Nat, m ≤ groups.length ∧ i = .int .i64 m ∧ ∀ (k : Nat) y, k < m → groups[k]? = some y → kn y ≠ 0) (fun i => groups.length - (intOf i).toNat)
  case atStart => exact ⟨0, by omega, rfl, fun k y hk => by omega⟩
  case round =>
    obtain ⟨m, hm, rfl, hno⟩ := hrel
    have HN := Lib.hid hno
    clear hno
    rcases Nat.lt_or_ge m groups.length with hlt | hge
    · obtain ⟨b, o, x, rfl, hbl, hx, hc⟩ := H.out.gAt hlt
      have hmI : (m : Int) < (groups.length : Int) := by omega
      have hx4 := HG.out x (List.mem_of_getElem? hx)
      have HX := Lib.hid hx
      have HLT := Lib.hid hlt
      clear hx hlt
      by_cases he : kn x = 0
      · have HE := Lib.hid he
        have hout : false = final ⟨id, groups, kn⟩ := by
          symm
          unfold final
          rw [List.all_eq_false]
          exact ⟨x, List.mem_of_getElem? HX.out, by simp [he]⟩
        have HO := Lib.hid (END.out _ hout)
        have heb : (kn x == 0) = true := by simpa using he
        have : x = 0 ∨ x = 1 ∨ x = 2 ∨ x = 3 := by omega
        clear hx4 hout he
        rcases this with rfl | rfl | rfl | rfl
        all_goals
          go_wp2
          go_tidy
          exact HO.out
      · have HE := Lib.hid he
        have heb : (kn x == 0) = false := by simpa using he
        have nxt : ∃ m' : Nat, m' ≤ groups.length ∧ (Value.int .i64 ((m : Int) + 1)) = .int .i64 m' ∧ ∀ (k : Nat) y, k < m' → groups[k]? = some y → kn y ≠ 0 := ⟨m + 1, HLT.out, rfl, fun k y hk hy => by
          rcases Nat.lt_or_ge k m with h1 | h1
          · exact HN.out k y h1 hy
          · obtain rfl : k = m := by omega
            rw [HX.out] at hy; cases hy; exact HE.out⟩
        have NXT := Lib.hid nxt
        have : x = 0 ∨ x = 1 ∨ x = 2 ∨ x = 3 := by omega
        clear hx4 nxt he
        rcases this with rfl | rfl | rfl | rfl
        all_goals
          go_wp2
          go_tidy
          exact ⟨NXT.out, by have := HLT.out; simp [intOf]; omega⟩
    · obtain rfl : m = groups.length := by omega
      have hout : true = final ⟨id, groups, kn⟩ := by
        symm
        unfold final
        rw [List.all_eq_true]
        intro x hx
        obtain ⟨k, hk⟩ := List.getElem?_of_mem hx
        have := HN.out k x (List.getElem?_eq_some_iff.1 hk).1 hk
        simpa using this
      have HO := Lib.hid (END.out _ hout)
      clear hout
      go_wp2
      go_tidy
      exact HO.out
end Go.Proofs.Ytamjdghjaimihaa
