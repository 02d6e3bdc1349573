/- Contracts of the queue's functions where at most one waits. Conditions: each law's own. -/
import Derived.Test.YtamjdghjaimihaaRows
import Derived.Test.YtamjdghjaimihaaLists
import Derived.Test.YtamjdghjaimihaaTails
import Derived.Laws.IdiomRangeMap
import Derived.Maps.RangeRun
import Derived.Deep.RegionHeld3
namespace Go.Proofs.Ytamjdghjaimihaa
open Go.ChangeShapes Go.WideShapes Go.ChangeAt Go.RowKit

/-- An id that may be. -/
def goodId (s q : Int) : Bool := decide (1 ≤ s) && decide (s ≤ 8) && (decide (1 ≤ q) && decide (q ≤ 1048576))

theorem c12 (s q : Int) (w : World) : Calls Try.prog 12 #[.agg #[.int .i64 s, .int .i64 q]] w fun e w' => e = .returned (.bool (goodId s q)) ∧ w' = w.alloc (.cells #[.int .i64 s, .int .i64 q] 31) := by
  refine gen fun R hR => ?_
  unfold goodId at hR
  go_enter Try.func12, Try.ntmps12
  go_wp2
  all_goals
    go_tidy
    first | omega | (intros; omega) | simp_all

theorem c32 (s q : Int) (w : World) : Calls Try.prog 32 #[.agg #[.int .i64 s, .int .i64 q]] w fun e w' => e = .returned (.bool (goodId s q)) ∧ w' = w.alloc (.cells #[.int .i64 s, .int .i64 q] 31) := by
  refine gen fun R hR => ?_
  unfold goodId at hR
  go_enter Try.func32, Try.ntmps32
  go_wp2
  all_goals
    go_tidy
    first | omega | (intros; omega) | simp_all

def NewEnd (g : Int) (w : World) (e : Ending) (w' : World) : Prop :=
  (¬ (0 ≤ g ∧ g < 4) ∧ e = .returned (.pointer none) ∧ w' = w) ∨
  ((0 ≤ g ∧ g < 4) ∧ e = .returned (.pointer (some ⟨w.heap.size, 0, none⟩)) ∧ w' = w.alloc (.cells #[.int .i64 g, .int .u64 0, .slice none 0 0] 78))

theorem c10 (g : Int) (w : World) : Calls Try.prog 10 #[.int .i64 g] w (NewEnd g w) := by
  refine gen (S := NewEnd g w) fun R hR => ?_
  unfold NewEnd at hR
  go_enter Try.func10, Try.ntmps10
  go_wp2
  all_goals
    go_tidy
    first | omega | (intros; omega) | simp_all

set_option maxRecDepth 100000 in
theorem c68one (w : World) : Calls Try.prog 68 #[.int .u64 1] w fun e w' => e = .returned (.int .i64 1) ∧ w' = w := by
  refine gen fun R hR => ?_
  go_enter Try.func68, Try.ntmps68
  go_wp2
  all_goals
    go_tidy
    first | kernel_rfl | decide +kernel

theorem c57one (w : World) : Calls Try.prog 57 #[.int .u64 1] w fun e w' => e = .returned (.int .i64 1) ∧ w' = w := by
  refine gen fun R hR => ?_
  go_enter Try.func57, Try.ntmps57
  go_wp2_with (go_at_call 68; (with_reducible refine (c68one _).mono ?_); rintro e w' ⟨rfl, rfl⟩)

theorem c59one (v cb : Value) (w : World) : Calls Try.prog 59 #[v, .int .i64 0, .int .i64 1, cb] w fun e w' => e = .returned (.tuple #[]) ∧ w' = w := by
  refine gen fun R hR => ?_
  go_enter Try.func59, Try.ntmps59
  go_wp2
  go_loopw [8] (fun i wr => i = .int .i64 1 ∧ wr = w) (fun _ _ => 0)
  case atStart => exact ⟨rfl, rfl⟩
  case round =>
    obtain ⟨rfl, rfl⟩ := hrel
    go_wp2
    all_goals
      (try go_end0)
      exact hR _ _ ⟨rfl, rfl⟩
def OneRel (w : World) (a b _ : Value) (wr : World) : Prop := a = .int .i64 0 ∧ b = .int .i64 1 ∧ wr = w
theorem c56one (v cb : Value) (l : Int) (w : World) : Calls Try.prog 56 #[v, .int .i64 0, .int .i64 1, .int .i64 l, cb] w fun e w' => e = .returned (.tuple #[]) ∧ w' = w := by
  refine gen fun R hR => ?_
  go_enter Try.func56, Try.ntmps56
  go_wp2
  go_loopw [1, 2, 3] (OneRel w) (fun _ _ _ _ => 0)
  case atStart => exact ⟨rfl, rfl, rfl⟩
  case round =>
    obtain ⟨rfl, rfl, rfl⟩ := hrel
    go_wp2_with (go_at_call 59; (with_reducible refine (c59one _ _ _).mono ?_); rintro e w' ⟨rfl, rfl⟩)
    all_goals
      (try go_end0)
      exact hR _ _ ⟨rfl, rfl⟩
theorem c49one (a : Option Addr) (c : Nat) (cb : Value) (w : World) : Calls Try.prog 49 #[.slice a 1 c, cb] w fun e w' => e = .returned (.tuple #[]) ∧ w' = w := by
  refine gen fun R hR => ?_
  go_enter Try.func49, Try.ntmps49
  go_wp2_with (first | (go_at_call 57; (with_reducible refine (c57one _).mono ?_); rintro e w' ⟨rfl, rfl⟩) | (go_at_call 56; (with_reducible refine (c56one _ _ _ _).mono ?_); rintro e w' ⟨rfl, rfl⟩))
  all_goals
    (try go_end0)
    exact hR _ _ ⟨rfl, rfl⟩
theorem underlying32 : Try.prog.underlying 32 = some (.slice 3) := by kernel_rfl
theorem c55one (b o c : Nat) (g : Int) (w : World) (h : w.cell? ⟨b, o, none⟩ = some (.int .i64 g)) : Calls Try.prog 55 #[.slice (some ⟨b, o, none⟩) 1 c, .int .i64 g] w fun e w' => e = .returned (.int .i64 0) ∧ w' = w := by
  refine gen fun R hR => ?_
  go_enter Try.func55, Try.ntmps55
  go_wp2
  go_loopw [8] (fun i wr => i = .int .i64 0 ∧ wr = w) (fun _ _ => 0)
  case atStart => exact ⟨rfl, rfl⟩
  case round =>
    obtain ⟨rfl, rfl⟩ := hrel
    go_wp2
theorem c46one (b o c : Nat) (g : Int) (w : World) (h : w.cell? ⟨b, o, none⟩ = some (.int .i64 g)) : Calls Try.prog 46 #[.slice (some ⟨b, o, none⟩) 1 c, .int .i64 g] w fun e w' => e = .returned (.bool true) ∧ w' = w := by
  refine gen fun R hR => ?_
  go_enter Try.func46, Try.ntmps46
  go_wp2_with (go_at_call 55; (with_reducible refine (c55one _ _ _ _ _ h).mono ?_); rintro e w' ⟨rfl, rfl⟩)
def RightRel (w : World) (i : Value) (wr : World) : Prop := wr = w ∧ (i = .int .i64 0 ∨ i = .int .i64 1)
theorem c33one (x y b o c : Nat) (g : Int) (w : World) (hq : w.cell? ⟨x, y, none⟩ = some (.int .i64 g)) (h : w.cell? ⟨b, o, none⟩ = some (.int .i64 g)) (h0 : 0 ≤ g) (h1 : g < 4) :
    Calls Try.prog 33 #[.pointer (some ⟨x, y, none⟩), .slice (some ⟨b, o, none⟩) 1 c] w fun e w' => e = .returned (.bool true) ∧ w' = w := by
  refine gen fun R hR => ?_
  go_enter Try.func33, Try.ntmps33
  go_wp2
  go_loopw [9] (RightRel w) (fun i _ => 1 - (intOf i).toNat)
  case atStart => exact ⟨rfl, .inl rfl⟩
  case round =>
    obtain ⟨rfl, rfl | rfl⟩ := hrel
    · go_wp2
      exact ⟨⟨rfl, .inr rfl⟩, by simp [intOf]⟩
    · go_wp2_with (go_at_call 46; (with_reducible refine (c46one _ _ _ _ _ h).mono ?_); rintro e w' ⟨rfl, rfl⟩)
theorem c47none (a : Option Addr) (c : Nat) (f : Value) (w : World) : Calls Try.prog 47 #[.slice a 0 c, f] w fun e w' => e = .returned (.int .i64 (-1)) ∧ w' = w := by
  refine gen fun R hR => ?_
  go_enter Try.func47, Try.ntmps47
  go_wp2
  go_loopw [8] (fun i wr => i = .int .i64 0 ∧ wr = w) (fun _ _ => 0)
  case atStart => exact ⟨rfl, rfl⟩
  case round =>
    obtain ⟨rfl, rfl⟩ := hrel
    go_wp2
theorem c34none (x y c : Nat) (a : Option Addr) (s q : Int) (w : World) (h : w.cell? ⟨x, y + 2, none⟩ = some (.slice a 0 c)) : Calls Try.prog 34 #[.pointer (some ⟨x, y, none⟩), .agg #[.int .i64 s, .int .i64 q]] w fun e w' => e = .returned (.pointer none) ∧ w' = w.alloc (.cells #[.int .i64 s, .int .i64 q] 31) := by
  refine gen fun R hR => ?_
  have hx : x < w.heap.size := World.block_lt_of_cell? w _ h
  go_enter Try.func34, Try.ntmps34
  go_wp2_with (go_at_call 47; (with_reducible refine (c47none _ _ _ _).mono ?_); rintro e w' ⟨rfl, rfl⟩)
set_option maxHeartbeats 1000000 in
theorem c35 (b o n c : Nat) (cells : List Value) (w : World) (hl : cells.length = n) (h1 : ∀ u ∈ cells, u.oneCell' = true) (hbig : n * 8 ≤ 140737488355328) (h : ∀ j u, cells[j]? = some u → w.cell? ⟨b, o + j, none⟩ = some u) :
    Calls Try.prog 35 #[.slice (some ⟨b, o, none⟩) n c] w fun e w' => ∃ v', e = .returned v' ∧ w'.ownsRow w.heap.size 3 1 v' n cells ∧ v' ≠ .slice none 0 0 ∧ Below w.heap.size w w' := by
  refine gen (S := fun e w' => ∃ v', e = .returned v' ∧ w'.ownsRow w.heap.size 3 1 v' n cells ∧ v' ≠ .slice none 0 0 ∧ Below w.heap.size w w') fun R hR => ?_
  have q32 : ∀ (w : World) (a : Option Addr) (n c n' c' : Nat), (binOp .eql 32 (.slice a n c) (.slice none n' c')).run Try.prog w = .ok (.bool a.isNone) w := fun w a n c n' c' => Lib.run_eql_slice_nil w _ _ a n c n' c' underlying32 
  obtain ⟨i0, hi, hz0, hz1, hz2⟩ := info_parts (P := Try.prog) (e := 3) (z := Value.int .i64 0) (size := 1) (bytes := 8) (by kernel_rfl)
  have H := Lib.hid h
  have H1 := Lib.hid h1
  clear h h1
  go_enter Try.func35, Try.ntmps35
  go_wp2_with (at_builtin; refine wpList_append_own _ rfl _ _ 32 rfl w.heap.size 3 i0 (.int .i64 0) 1 8 underlying32  hi hz0 hz1 hz2 rfl (by decide) _ _ _ rfl (World.ownsRow_made w #[] 0 (Nat.le_refl _) (Nat.zero_le _) rfl) ⟨b, o, none⟩ n c cells rfl ?qc1 ?qc2 ?qc3 ?qc4 ?qc5 ?qc6 ?_)
  case qc1 => rw [hl, Nat.mul_one]
  case qc2 =>
    intro j u hj
    rw [Go.WideShapes.add_plain]
    exact Lib.cell?_alloc_some _ (H.out j u hj)
  case qc3 => exact H1.out
  case qc4 => unfold maxLen; omega
  case qc5 => omega
  case qc6 => simp
  intro v' w1 hown hgrow hnil
  go_wp2
  go_tidy
  refine ⟨v', rfl, by simpa using hown, hnil, ?_⟩
  exact ((Below.refl _ w).alloc (Nat.le_refl _) _).grown hgrow (by simp) (by intro k hk; simp [Value.ownBlock] at hk; omega)

/-- One that waits: its cells. -/
def encOne (s q : Int) (gs : Value) (own : Int) (m : Value) (f : Bool) : List Value := [.int .i64 s, .int .i64 q, gs, .int .u64 own, m, .bool f]
theorem underlying82 : Try.prog.underlying 82 = some (.map 3 26) := by kernel_rfl
theorem next_none (w : World) (m : Nat) (ty : TypeId) (hb : w.heap[m]? = some (.map #[] 0)) :
    (Instr.next (.pointer (some ⟨w.heap.size, 0, none⟩)) false ty).run Try.prog (w.alloc (.mapIter (some m) 0 #[] 0)) = .ok (.tuple #[.bool false]) (w.alloc (.mapIter (some m) 0 #[] 0)) := by
  have h := run_next_map (P := Try.prog) w ty m 0 0 #[] #[] 0 hb (by simp) (Nat.le_refl _)
  rcases h with ⟨_, h⟩ | ⟨e, he, _⟩
  · exact h
  · simp [leftOf] at he
theorem c37one (b : Nat) (s q own : Int) (gs : Value) (m : Nat) (w : World) (h : VarAt w b 84 (encOne s q gs own (.map (some m)) true)) (hb : w.heap[m]? = some (.map #[] 0)) :
    Calls Try.prog 37 #[.pointer (some ⟨b, 0, none⟩)] w fun e w' => e = .returned (.int .u64 own) ∧ w' = w.alloc (.mapIter (some m) 0 #[] 0) := by
  refine gen fun R hR => ?_
  have g2 := h.cell (j := 3) (u := .int .u64 own) rfl
  have g3 := h.cell (j := 4) (u := .map (some m)) rfl
  have g4 := h.cell (j := 5) (u := .bool true) rfl
  have hrg := run_range_map (P := Try.prog) w 82 3 26 m #[] 0 underlying82 hb
  have hnx := fun ty => next_none w m ty hb
  clear h hb
  go_enter Try.func37, Try.ntmps37
  go_wp2
  refine wp_loop_rounds 1 ?_
  rw [rounds_succ]
  go_wp2

end Go.Proofs.Ytamjdghjaimihaa
