/- The queue that is not there; the law StampNil. Conditions: each law's own. -/
import Derived.Test.YtamjdghjaimihaaBegin
import Derived.Test.YtamjdghjaimihaaArgs
namespace Go.Proofs.Ytamjdghjaimihaa
open Go.ChangeShapes Go.WideShapes Go.ChangeAt Go.RowKit

theorem c13nil (w : World) : Calls Try.prog 13 #[.pointer none] w fun e w' => e = .returned (.tuple #[.agg #[.int .i64 0, .int .i64 0], .int .u64 0, .bool false]) ∧ w' = w.alloc (.cells #[.int .i64 0, .int .i64 0] 31) := by
  refine gen fun R hR => ?_
  go_enter Try.func13, Try.ntmps13
  go_wp2
  all_goals
    refine bodyPost_ret (v := .tuple #[.agg #[.int .i64 0, .int .i64 0], .int .u64 0, .bool false]) (by simp [results, Try.results13, go_sem]) rfl (hR _ _ ⟨rfl, ?_⟩)
    rfl
theorem c14nil (s q : Int) (w : World) : Calls Try.prog 14 #[.pointer none, .agg #[.int .i64 s, .int .i64 q]] w fun e w' => e = .returned (.bool false) ∧ Below w.heap.size w w' := by
  refine gen fun R hR => ?_
  go_enter Try.func14, Try.ntmps14
  go_wp2_with (go_at_call 13; (with_reducible refine (c13nil _).mono ?_); rintro e w' ⟨rfl, rfl⟩)
  all_goals
    go_tidy
    exact ⟨rfl, (((Below.refl _ _).alloc (Nat.le_refl _) _).alloc (by simp) _).alloc (by simp; omega) _⟩
theorem c15nil (w : World) : Calls Try.prog 15 #[.pointer none] w fun e w' => e = .returned (.int .u64 0) ∧ w' = w := by
  refine gen fun R hR => ?_
  go_enter Try.func15, Try.ntmps15
  go_wp2
theorem c16nil (w : World) : Calls Try.prog 16 #[.pointer none] w fun e w' => e = .returned (.int .u64 0) ∧ w' = w := by
  refine gen fun R hR => ?_
  go_enter Try.func16, Try.ntmps16
  go_wp2_with (go_at_call 15; (with_reducible refine (c15nil _).mono ?_); rintro e w' ⟨rfl, rfl⟩)
theorem c17nil (w : World) : Calls Try.prog 17 #[.pointer none] w fun e w' => e = .returned (.slice none 0 0) ∧ w' = w := by
  refine gen fun R hR => ?_
  go_enter Try.func17, Try.ntmps17
  go_wp2
theorem c34nil (s q : Int) (w : World) : Calls Try.prog 34 #[.pointer none, .agg #[.int .i64 s, .int .i64 q]] w fun e w' => e = .returned (.pointer none) ∧ w' = w.alloc (.cells #[.int .i64 s, .int .i64 q] 31) := by
  refine gen fun R hR => ?_
  go_enter Try.func34, Try.ntmps34
  go_wp2
theorem c26nil (s q : Int) (w : World) : Calls Try.prog 26 #[.pointer none, .agg #[.int .i64 s, .int .i64 q]] w fun e w' => e = .returned (.tuple #[.int .u64 0, .bool false]) ∧ Below w.heap.size w w' := by
  refine gen fun R hR => ?_
  go_enter Try.func26, Try.ntmps26
  go_wp2_with (go_at_call 34; (with_reducible refine (c34nil _ _ _).mono ?_); rintro e w' ⟨rfl, rfl⟩)
  all_goals
    go_tidy
    exact ⟨rfl, ((Below.refl _ _).alloc (Nat.le_refl _) _).alloc (by simp) _⟩
theorem c31nil (s q g st : Int) (w : World) : Calls Try.prog 31 #[.pointer none, .agg #[.int .i64 s, .int .i64 q], .int .i64 g, .int .u64 st] w fun e w' => e = .returned (.int .i64 6) ∧ Below w.heap.size w w' := by
  refine gen fun R hR => ?_
  go_enter Try.func31, Try.ntmps31
  go_wp2_with (go_at_call 34; (with_reducible refine (c34nil _ _ _).mono ?_); rintro e w' ⟨rfl, rfl⟩)
  all_goals
    go_tidy
    exact ⟨rfl, ((Below.refl _ _).alloc (Nat.le_refl _) _).alloc (by simp) _⟩
theorem c11first (w : World) : Calls Try.prog 11 #[.pointer (some ⟨w.heap.size, 0, none⟩), .agg #[.int .i64 1, .int .i64 1], .slice (some ⟨w.heap.size + 1, 0, none⟩) 1 1]
    ((w.alloc (.cells #[.int .i64 0, .int .u64 0, .slice none 0 0] 78)).alloc (.cells #[.int .i64 0] 3)) fun e w' => e = .returned (.tuple #[.int .u64 1, .int .i64 0]) ∧ Below w.heap.size w w' := by
  have hq := (VarAt.new w 78 [.int .i64 0, .int .u64 0, .slice none 0 0]).alloc (.cells #[.int .i64 0] 3)
  have hg := (VarAt.new (w.alloc (.cells #[.int .i64 0, .int .u64 0, .slice none 0 0] 78)) 3 [.int .i64 0]).cell (j := 0) rfl
  rw [World.size_alloc] at hg
  refine (c11one w.heap.size w.heap.size w.heap.size 0 0 (.slice none 0 0) 1 1 (w.heap.size + 1) 0 1 _ rfl hq (Tail.nil _ _) hg (by simp [Value.ownBlock]) (by simp [Value.ownBlock]) (by omega) (by omega) (by omega) (by omega) (by omega) (Nat.le_refl _) (Nat.le_refl _) (by simp; omega)).mono ?_
  rintro e w' ⟨rfl, v, p, m, gs, _, _, _, _, _, hb, _⟩
  exact ⟨rfl, (((Below.refl _ _).alloc (Nat.le_refl _) _).alloc (by simp) _).trans hb⟩
theorem c9 (w : World) : Calls Try.prog 9 #[] w fun e w' => e = .returned (.bool true) ∧ Below w.heap.size w w' := by
  refine gen fun R hR => ?_
  go_enter Try.func9, Try.ntmps9
  go_wp2_with (first
    | (go_at_call 10
       (with_reducible refine (c10 0 _).mono ?_)
       rintro e w' (⟨h, _⟩ | ⟨_, rfl, rfl⟩)
       · exact absurd (by omega) h)
    | (go_at_call 11; (with_reducible refine (c11first _).mono ?_); rintro e w' ⟨rfl, hb⟩))
  all_goals
    go_tidy
    exact ⟨rfl, hb⟩
/-- The law's own box of its struct argument, and all that was there, are kept. -/
def Boxed (T : TypeId) (cs : List Value) (w W : World) : Prop := VarAt W w.heap.size T cs ∧ Below w.heap.size w W
theorem Boxed.new (w : World) (T : TypeId) (cs : List Value) : Boxed T cs w (w.alloc (.cells cs.toArray T)) := ⟨VarAt.new w T cs, (Below.refl _ _).alloc (Nat.le_refl _) _⟩
theorem Boxed.alloc {T : TypeId} {cs : List Value} {w W : World} (h : Boxed T cs w W) (o : Obj) : Boxed T cs w (W.alloc o) := ⟨h.1.alloc o, h.2.alloc h.2.size o⟩
theorem Boxed.below {T : TypeId} {cs : List Value} {w W W' : World} (h : Boxed T cs w W) (hb : Below W.heap.size W W') : Boxed T cs w W' := ⟨h.1.keep hb h.1.lt, h.2.trans (hb.mono h.2.size)⟩
set_option maxHeartbeats 1000000 in
theorem c8 (g : Int) (K S Q : Int) (v : Value) (gr st : Int) (a : Option Addr) (n c : Nat) (hv : v = .slice a n c) (w : World) : Calls Try.prog 8 #[.int .i64 g, .agg #[.int .i64 K, .int .i64 S, .int .i64 Q, v, .int .i64 gr, .int .u64 st]] w fun e w' => e = .returned (.bool true) ∧ Below w.heap.size w w' := by
  subst hv
  refine gen fun R hR => ?_
  go_enter Try.func8, Try.ntmps8
  go_wp2_with (first
    | (go_at_call 9
       (with_reducible refine (c9 _).mono ?_)
       rintro e w1 ⟨rfl, hb9⟩
       have h1 := (Boxed.new w 66 [.int .i64 K, .int .i64 S, .int .i64 Q, .slice a n c, .int .i64 gr, .int .u64 st]).below hb9
       have q1 := h1.1.cell (j := 1) rfl
       have q2 := h1.1.cell (j := 2) rfl
       have q3 := h1.1.cell (j := 3) rfl
       have s1 := h1.1.lt
       have s2 := Nat.lt_succ_of_lt s1
       have s3 := Nat.lt_succ_of_lt s2
       have s4 := Nat.lt_succ_of_lt s3
       simp only [Nat.succ_eq_add_one] at s2 s3 s4
       clear hb9)
    | (go_at_call 9
       (with_reducible refine (c9 _).mono ?_)
       rintro e w4 ⟨rfl, hb9⟩
       have h4 := h1.below hb9
       clear hb9)
    | (go_at_call 11; (with_reducible refine (c11nil _ _ _ _).mono ?_); rintro e w' ⟨rfl, rfl⟩)
    | (go_at_call 13; (with_reducible refine (c13nil _).mono ?_); rintro e w' ⟨rfl, rfl⟩)
    | (go_at_call 26
       (with_reducible refine (c26nil _ _ _).mono ?_)
       rintro e w2 ⟨rfl, hb26⟩
       have h2 := (((h1.alloc _).alloc _).alloc _).below hb26
       have r1 := h2.1.cell (j := 1) rfl
       have r2 := h2.1.cell (j := 2) rfl
       have r3 := h2.1.cell (j := 3) rfl
       have r4 := h2.1.cell (j := 4) rfl
       have r5 := h2.1.cell (j := 5) rfl
       have t1 := h2.1.lt
       have t2 := Nat.lt_succ_of_lt t1
       simp only [Nat.succ_eq_add_one] at t2
       clear hb26)
    | (go_at_call 10; (with_reducible refine (c10 g _).mono ?_); rintro e w' (⟨hg, rfl, rfl⟩ | ⟨hg, rfl, rfl⟩))
    | (go_at_call 31
       (with_reducible refine (c31nil _ _ _ _ _).mono ?_)
       rintro e w3 ⟨rfl, hb31⟩
       have h3 : Boxed 66 [.int .i64 K, .int .i64 S, .int .i64 Q, .slice a n c, .int .i64 gr, .int .u64 st] w w3 := by
         first
           | exact h2.below hb31
           | exact (h2.alloc _).below hb31
       have r1 := h3.1.cell (j := 1) rfl
       have r2 := h3.1.cell (j := 2) rfl
       have t1 := h3.1.lt
       clear hb31)
    | (go_at_call 14
       (with_reducible refine (c14nil _ _ _).mono ?_)
       rintro e w4 ⟨rfl, hb14⟩
       have h4 := h3.below hb14
       clear hb14)
    | (go_at_call 15; (with_reducible refine (c15nil _).mono ?_); rintro e w' ⟨rfl, rfl⟩)
    | (go_at_call 16; (with_reducible refine (c16nil _).mono ?_); rintro e w' ⟨rfl, rfl⟩)
    | (go_at_call 17; (with_reducible refine (c17nil _).mono ?_); rintro e w' ⟨rfl, rfl⟩)
    | fail)
  all_goals
    go_tidy
    first
      | exact ⟨rfl, h4.2⟩
      | (exfalso; omega)
      | (simp_all; done)
      | (simp_all; exact h4.2)

theorem cells3 : Try.prog.cellsOf 3 = 1 := by kernel_rfl
theorem cells26 : Try.prog.cellsOf 26 = 1 := by kernel_rfl
theorem cells31 : Try.prog.cellsOf 31 = 2 := by kernel_rfl
theorem cells32 : Try.prog.cellsOf 32 = 1 := by kernel_rfl
theorem cells66 : Try.prog.cellsOf 66 = 6 := by kernel_rfl
def encInt (n : Int) : List Value := [.int .i64 n]
def IdCells (cs : List Value) : Prop := ∃ s q : Int, (Lit.int .i64 s).wf = true ∧ (Lit.int .i64 q).wf = true ∧ cs = [.int .i64 s, .int .i64 q]
theorem opensId {H : Type} (E : TypeId × Value → H) (w : World) : Opens E Try.prog w 31 IdCells := by
  refine (opens_fields Try.underlying31 (L := [(3, 0), (3, 1)]) (by kernel_rfl) (fun _ cs => ∃ n, (Lit.int .i64 n).wf = true ∧ cs = [.int .i64 n]) ?_).mono ?_
  · intro i t o hf
    match i with
    | 0 => simp at hf; obtain ⟨rfl, rfl⟩ := hf; exact opens_int Try.underlying3
    | 1 => simp at hf; obtain ⟨rfl, rfl⟩ := hf; exact opens_int Try.underlying3
    | n + 2 => simp at hf
  · rintro cs ⟨hl, h⟩
    rw [cells31] at hl
    obtain ⟨n, hn, h0⟩ : ∃ n, (Lit.int .i64 n).wf = true ∧ (cs.drop 0).take (Try.prog.cellsOf 3) = [.int .i64 n] := h 0 _ _ rfl
    obtain ⟨m, hm, h1⟩ : ∃ n, (Lit.int .i64 n).wf = true ∧ (cs.drop 1).take (Try.prog.cellsOf 3) = [.int .i64 n] := h 1 _ _ rfl
    clear h
    rw [cells3] at h0 h1
    match cs, hl with
    | [a, b], _ =>
      simp at h0 h1
      exact ⟨n, m, hn, hm, by rw [h0, h1]⟩
def IntsAt (w : World) (cs : List Value) : Prop := ∃ (v : Value) (xs : List Int), (∀ x ∈ xs, (Lit.int .i64 x).wf = true) ∧ cs = [v] ∧ RowOf encInt 1 w v xs
theorem opensInts {H : Type} (E : TypeId × Value → H) (w : World) : Opens E Try.prog w 32 (IntsAt w) :=
  opens_slice Try.underlying32 cells3 (by decide) (fun _ => rfl) ((opens_int Try.underlying3).mono fun _ ⟨n, hn, he⟩ => ⟨n, hn, he⟩)
def OpCells (w : World) (cs : List Value) : Prop := ∃ (K S Q : Int) (v : Value) (xs : List Int) (g st : Int), cs = [.int .i64 K, .int .i64 S, .int .i64 Q, v, .int .i64 g, .int .u64 st] ∧ RowOf encInt 1 w v xs ∧
  (∀ x ∈ xs, (Lit.int .i64 x).wf = true) ∧ (Lit.int .i64 K).wf = true ∧ (Lit.int .i64 S).wf = true ∧ (Lit.int .i64 Q).wf = true ∧ (Lit.int .i64 g).wf = true ∧ (Lit.int .u64 st).wf = true
def opField (w : World) : Nat → List Value → Prop
  | 1 => IdCells
  | 2 => IntsAt w
  | 4 => fun cs => ∃ n, (Lit.int .u64 n).wf = true ∧ cs = [.int .u64 n]
  | _ => fun cs => ∃ n, (Lit.int .i64 n).wf = true ∧ cs = [.int .i64 n]
theorem opensOp {H : Type} (E : TypeId × Value → H) (w : World) : Opens E Try.prog w 66 (OpCells w) := by
  refine (opens_fields Try.underlying66 (L := [(3, 0), (31, 1), (32, 3), (3, 4), (26, 5)]) (by kernel_rfl) (opField w) ?_).mono ?_
  · intro i t o hf
    match i with
    | 0 => simp at hf; obtain ⟨rfl, rfl⟩ := hf; exact opens_int Try.underlying3
    | 1 => simp at hf; obtain ⟨rfl, rfl⟩ := hf; exact opensId E w
    | 2 => simp at hf; obtain ⟨rfl, rfl⟩ := hf; exact opensInts E w
    | 3 => simp at hf; obtain ⟨rfl, rfl⟩ := hf; exact opens_int Try.underlying3
    | 4 => simp at hf; obtain ⟨rfl, rfl⟩ := hf; exact opens_int Try.underlying26
    | n + 5 => simp at hf
  · rintro cs ⟨hl, h⟩
    rw [cells66] at hl
    obtain ⟨K, hK, h0⟩ : ∃ n, (Lit.int .i64 n).wf = true ∧ (cs.drop 0).take (Try.prog.cellsOf 3) = [.int .i64 n] := h 0 _ _ rfl
    obtain ⟨S, Q, hS, hQ, h1⟩ : IdCells ((cs.drop 1).take (Try.prog.cellsOf 31)) := h 1 _ _ rfl
    obtain ⟨v, xs, hx, h2, hr⟩ : IntsAt w ((cs.drop 3).take (Try.prog.cellsOf 32)) := h 2 _ _ rfl
    obtain ⟨g, hg, h3⟩ : ∃ n, (Lit.int .i64 n).wf = true ∧ (cs.drop 4).take (Try.prog.cellsOf 3) = [.int .i64 n] := h 3 _ _ rfl
    obtain ⟨st, hst, h4⟩ : ∃ n, (Lit.int .u64 n).wf = true ∧ (cs.drop 5).take (Try.prog.cellsOf 26) = [.int .u64 n] := h 4 _ _ rfl
    clear h
    rw [cells3] at h0 h3
    rw [cells31] at h1
    rw [cells32] at h2
    rw [cells26] at h4
    match cs, hl with
    | [a, b, c, d, e, f], _ =>
      simp at h0 h1 h2 h3 h4
      exact ⟨K, S, Q, v, xs, g, st, by rw [h0, h1.1, h1.2, h2, h3, h4], hr, hx, hK, hS, hQ, hg, hst⟩
theorem nilWalk (v0 v1 : Value) (w : World) (a0 : ArgAt Try.prog 3 v0 w) (a1 : ArgAt Try.prog 66 v1 w) : Calls Try.prog 8 #[v0, v1] w fun e w' => e = .returned (.bool true) ∧ Below w.heap.size w w' := by
  obtain ⟨g, rfl, _⟩ := a0.int Try.underlying3
  obtain ⟨cs, rfl, _, K, S, Q, v, xs, gr, st, rfl, ⟨a, cap, rfl, _⟩, _⟩ := a1.struct Try.underlying66 fun _ E => opensOp E w
  exact c8 g K S Q _ gr st a xs.length cap rfl w
end Go.Proofs.Ytamjdghjaimihaa
