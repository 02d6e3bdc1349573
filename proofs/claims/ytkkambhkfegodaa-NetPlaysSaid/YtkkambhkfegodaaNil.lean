/- The law of the network that is not there: its walk. Conditions: each law's own. -/
import Derived.Test.YtkkambhkfegodaaAwake
import Derived.Test.YtkkambhkfegodaaArgs
namespace Go.Proofs.Ytkkambhkfegodaa
open Go.ChangeShapes Go.WideShapes Go.ChangeAt Go.RowKit

/-- The law's own box of its struct argument, and all that was there, are kept. -/
def Boxed (T : TypeId) (cs : List Value) (w W : World) : Prop := VarAt W w.heap.size T cs ∧ Below w.heap.size w W
theorem Boxed.new (w : World) (T : TypeId) (cs : List Value) : Boxed T cs w (w.alloc (.cells cs.toArray T)) := ⟨VarAt.new w T cs, (Below.refl _ _).alloc (Nat.le_refl _) _⟩
theorem Boxed.below {T : TypeId} {cs : List Value} {w W W' : World} (h : Boxed T cs w W) (hb : Below W.heap.size W W') : Boxed T cs w W' := ⟨h.1.keep hb h.1.lt, h.2.trans (hb.mono h.2.size)⟩
theorem Boxed.grow {T : TypeId} {cs : List Value} {w W W' : World} (h : Boxed T cs w W) (hb : ∃ q os, W' = Go.Sort.grow (W.drewN q) os) : Boxed T cs w W' := by
  obtain ⟨q, os, rfl⟩ := hb
  exact h.below Below.of_grow
set_option maxHeartbeats 2000000 in
theorem c7 (K F T A D : Int) (a : Option Addr) (n c : Nat) (w : World) : Calls Try.prog 7 #[.agg #[.int .i64 K, .int .i64 F, .int .i64 T, .int .i64 A, .int .i64 D, .slice a n c]] w fun e w' => e = .returned (.bool true) ∧ Below w.heap.size w w' := by
  refine gen fun R hR => ?_
  go_enter Try.func7, Try.ntmps7
  go_wp2_with (first
    | (go_at_call 8
       (with_reducible refine (c8 _).mono ?_)
       rintro e w1 ⟨rfl, hb8⟩
       have h1 := (Boxed.new w 49 [.int .i64 K, .int .i64 F, .int .i64 T, .int .i64 A, .int .i64 D, .slice a n c]).below hb8
       have q1 := h1.1.cell (j := 1) (u := .int .i64 F) rfl
       have q2 := h1.1.cell (j := 2) (u := .int .i64 T) rfl
       have q3 := h1.1.cell (j := 3) (u := .int .i64 A) rfl
       have q5 := h1.1.cell (j := 5) (u := .slice a n c) rfl
       clear hb8)
    | (go_at_call 8
       (with_reducible refine (c8 _).mono ?_)
       rintro e w4 ⟨rfl, hb9⟩
       have h4 := h1.below hb9
       clear hb9)
    | (go_at_call 11
       (with_reducible refine (c11nil _ _ _ _).mono ?_)
       rintro e w2 ⟨rfl, hb11⟩
       have h2 := h1.below hb11
       have r1 := h2.1.cell (j := 1) (u := .int .i64 F) rfl
       have r2 := h2.1.cell (j := 2) (u := .int .i64 T) rfl
       have r5 := h2.1.cell (j := 5) (u := .slice a n c) rfl
       clear hb11)
    | (go_at_call 10
       (with_reducible refine (c10nil _ _ _ _ _ _).mono ?_)
       rintro e w3 ⟨rfl, hb10⟩
       have h3 := h2.grow hb10
       have s1 := h3.1.cell (j := 1) (u := .int .i64 F) rfl
       have s2 := h3.1.cell (j := 2) (u := .int .i64 T) rfl
       have s3 := h3.1.cell (j := 3) (u := .int .i64 A) rfl
       clear hb10)
    | (go_at_call 13
       (with_reducible refine (c13nil _ _ _ _).mono ?_)
       rintro e w4 ⟨rfl, hb13⟩
       have h4 := h3.below hb13
       have t1 := h4.1.cell (j := 1) (u := .int .i64 F) rfl
       have t2 := h4.1.cell (j := 2) (u := .int .i64 T) rfl
       have t3 := h4.1.cell (j := 3) (u := .int .i64 A) rfl
       have t4 := h4.1.cell (j := 4) (u := .int .i64 D) rfl
       clear hb13)
    | (go_at_call 14
       (with_reducible refine (c14nil _ _ _ _ _).mono ?_)
       rintro e w5 ⟨rfl, hb14⟩
       have h5 := h4.below hb14
       have t1 := h5.1.cell (j := 1) (u := .int .i64 F) rfl
       have t2 := h5.1.cell (j := 2) (u := .int .i64 T) rfl
       clear hb14)
    | (go_at_call 22; (with_reducible refine (c22nil _ _).mono ?_); rintro e w' ⟨rfl, rfl⟩)
    | (go_at_call 12; (with_reducible refine (c12nil _).mono ?_); rintro e w' ⟨rfl, rfl⟩)
    | (go_at_call 15; (with_reducible refine (c15nil _).mono ?_); rintro e w' ⟨rfl, rfl⟩)
    | (go_at_call 20; (with_reducible refine (c20nil _ _ _).mono ?_); rintro e w' ⟨rfl, rfl⟩)
    | fail)
  all_goals
    go_tidy
    first
      | exact ⟨rfl, h4.2⟩
      | exact ⟨rfl, h5.2⟩
      | (exfalso; omega)
      | (simp_all; done)

theorem cells3 : Try.prog.cellsOf 3 = 1 := by kernel_rfl
theorem cells5 : Try.prog.cellsOf 5 = 1 := by kernel_rfl
theorem cells22 : Try.prog.cellsOf 22 = 1 := by kernel_rfl
theorem cells49 : Try.prog.cellsOf 49 = 6 := by kernel_rfl
def BytesAt (w : World) (cs : List Value) : Prop := ∃ (v : Value) (xs : List Int), (∀ x ∈ xs, (Lit.int .u8 x).wf = true) ∧ cs = [v] ∧ RowOf encB 1 w v xs
theorem opensBytes {H : Type} (E : TypeId × Value → H) (w : World) : Opens E Try.prog w 22 (BytesAt w) :=
  opens_slice Try.underlying22 cells5 (by decide) (fun _ => rfl) ((opens_int Try.underlying5).mono fun _ ⟨n, hn, he⟩ => ⟨n, hn, he⟩)
/-- An Op: its six cells. -/
structure OpV where
  (kind f t a d : Int)
  v : Value
  bs : List Int
def OpV.cells (o : OpV) : List Value := [.int .i64 o.kind, .int .i64 o.f, .int .i64 o.t, .int .i64 o.a, .int .i64 o.d, o.v]
structure OpV.ok (w : World) (o : OpV) : Prop where
  row : RowOf encB 1 w o.v o.bs
  bytes : ∀ x ∈ o.bs, (Lit.int .u8 x).wf = true
  kind : (Lit.int .i64 o.kind).wf = true
  f : (Lit.int .i64 o.f).wf = true
  t : (Lit.int .i64 o.t).wf = true
  a : (Lit.int .i64 o.a).wf = true
  d : (Lit.int .i64 o.d).wf = true
def OpCells (w : World) (cs : List Value) : Prop := ∃ o : OpV, o.ok w ∧ cs = o.cells
def opField (w : World) : Nat → List Value → Prop
  | 5 => BytesAt w
  | _ => fun cs => ∃ n, (Lit.int .i64 n).wf = true ∧ cs = [.int .i64 n]
theorem opensOp {H : Type} (E : TypeId × Value → H) (w : World) : Opens E Try.prog w 49 (OpCells w) := by
  refine (opens_fields Try.underlying49 (L := [(3, 0), (3, 1), (3, 2), (3, 3), (3, 4), (22, 5)]) (by kernel_rfl) (opField w) ?_).mono ?_
  · intro i t o hf
    match i with
    | 0 => simp at hf; obtain ⟨rfl, rfl⟩ := hf; exact opens_int Try.underlying3
    | 1 => simp at hf; obtain ⟨rfl, rfl⟩ := hf; exact opens_int Try.underlying3
    | 2 => simp at hf; obtain ⟨rfl, rfl⟩ := hf; exact opens_int Try.underlying3
    | 3 => simp at hf; obtain ⟨rfl, rfl⟩ := hf; exact opens_int Try.underlying3
    | 4 => simp at hf; obtain ⟨rfl, rfl⟩ := hf; exact opens_int Try.underlying3
    | 5 => simp at hf; obtain ⟨rfl, rfl⟩ := hf; exact opensBytes E w
    | n + 6 => simp at hf
  · rintro cs ⟨hl, h⟩
    rw [cells49] at hl
    obtain ⟨k, hk, h0⟩ : ∃ n, (Lit.int .i64 n).wf = true ∧ (cs.drop 0).take (Try.prog.cellsOf 3) = [.int .i64 n] := h 0 _ _ rfl
    obtain ⟨f, hf, h1⟩ : ∃ n, (Lit.int .i64 n).wf = true ∧ (cs.drop 1).take (Try.prog.cellsOf 3) = [.int .i64 n] := h 1 _ _ rfl
    obtain ⟨t, ht, h2⟩ : ∃ n, (Lit.int .i64 n).wf = true ∧ (cs.drop 2).take (Try.prog.cellsOf 3) = [.int .i64 n] := h 2 _ _ rfl
    obtain ⟨a, ha, h3⟩ : ∃ n, (Lit.int .i64 n).wf = true ∧ (cs.drop 3).take (Try.prog.cellsOf 3) = [.int .i64 n] := h 3 _ _ rfl
    obtain ⟨d, hd, h4⟩ : ∃ n, (Lit.int .i64 n).wf = true ∧ (cs.drop 4).take (Try.prog.cellsOf 3) = [.int .i64 n] := h 4 _ _ rfl
    obtain ⟨v, xs, hx, h5, hr⟩ : BytesAt w ((cs.drop 5).take (Try.prog.cellsOf 22)) := h 5 _ _ rfl
    clear h
    rw [cells3] at h0 h1 h2 h3 h4
    rw [cells22] at h5
    match cs, hl with
    | [c0, c1, c2, c3, c4, c5], _ =>
      simp at h0 h1 h2 h3 h4 h5
      exact ⟨⟨k, f, t, a, d, v, xs⟩, ⟨hr, hx, hk, hf, ht, ha, hd⟩, by rw [h0, h1, h2, h3, h4, h5]; rfl⟩
theorem nilWalk (v0 : Value) (w : World) (a0 : ArgAt Try.prog 49 v0 w) : Calls Try.prog 7 #[v0] w fun e w' => e = .returned (.bool true) ∧ Below w.heap.size w w' := by
  obtain ⟨cs, rfl, _, o, ⟨⟨a, cap, hv, _⟩, _⟩, rfl⟩ := a0.struct Try.underlying49 fun _ E => opensOp E w
  have := c7 o.kind o.f o.t o.a o.d a o.bs.length cap w
  rw [← hv] at this
  exact this
end Go.Proofs.Ytkkambhkfegodaa
