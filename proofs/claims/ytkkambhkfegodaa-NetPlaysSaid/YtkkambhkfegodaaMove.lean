/- Move. Conditions: each law's own. -/
import Derived.Test.YtkkambhkfegodaaIns
import Derived.Test.YtkkambhkfegodaaDouble
namespace Go.Proofs.Ytkkambhkfegodaa
open Go.ChangeShapes Go.WideShapes Go.ChangeAt Go.RowKit

theorem setB_setB' (B : Key → List (List Int)) (k : Key) (p q : List (List Int)) : setB (setB B k p) k q = setB B k q := by
  funext k'; unfold setB; split <;> rfl
section
variable {w : World} {x : Nat} {s : NS} {B : Key → List (List Int)} {Z : Nat → Prop} {N : Nat}
theorem insertIdx_pair {α β : Type} {xs : List α} {ys : List β} {u : α} {b : β} {d j : Nat} {y : α} {z : β} (hl : xs.length = ys.length) (hd : d ≤ xs.length) (hy : (xs.insertIdx d u)[j]? = some y) (hz : (ys.insertIdx d b)[j]? = some z) :
    (y = u ∧ z = b) ∨ ∃ j' : Nat, xs[j']? = some y ∧ ys[j']? = some z := by
  rw [List.getElem?_insertIdx] at hy hz
  split at hy
  · rename_i h; rw [if_pos h] at hz; exact .inr ⟨j, hy, hz⟩
  · rename_i h
    rw [if_neg h] at hz
    split at hy
    · rename_i h2
      rw [if_pos h2] at hz
      split at hy
      · split at hz
        · injection hy with hy; injection hz with hz; exact .inl ⟨hy.symm, hz.symm⟩
        · cases hz
      · cases hy
    · rename_i h2
      rw [if_neg h2] at hz
      exact .inr ⟨j - 1, hy, hz⟩
/-- The bag with one packet more, at place d. -/
theorem NetAt.insert {w4 : World} (h : NetAt w x s B Z N) (hZ : ∀ j, Z j → j < w.heap.size) (k : Key) {g off cp d : Nat} {xs : List Value} {v3 pv : Value} {b : List Int} (hv : valOf s.l k = some (.slice (some ⟨g, off, none⟩) (B k).length cp))
    (hp : ∀ (i : Nat) (u : Value) (b : List Int), xs[i]? = some u → (B k)[i]? = some b → RowOf encB 1 w u b ∧ ∀ g, u.ownBlock = some g → g < w.heap.size ∧ ¬ Avoid s Z g)
    (ho : ∀ g', (Value.slice (some ⟨g, off, none⟩) (B k).length cp).ownBlock = some g' → Own s g' ∧ g' ≠ s.r ∧ ∀ e ∈ s.l, e.1 ≠ k → e.2.1.ownBlock ≠ some g')
    (hx : xs.length = (B k).length) (hd : d ≤ (B k).length) (hroom : (B k).length < 64) (hT : Tail w4 0 v3 ((B k).length + 1) (xs.insertIdx d pv)) (hF : Frame (fun j => some j ≠ (Value.slice (some ⟨g, off, none⟩) (B k).length cp).ownBlock) w w4)
    (hv3 : v3.ownBlock = (Value.slice (some ⟨g, off, none⟩) (B k).length cp).ownBlock ∨ ∃ g', v3.ownBlock = some g' ∧ w.heap.size ≤ g')
    (hrow : RowOf encB 1 w pv b) (hpv : ∀ g, pv.ownBlock = some g → g < w.heap.size ∧ ¬ Avoid s Z g) :
    NetAt (putMap encL w4 s.r (setVal (touch s.l k v3 s.clock) k v3) (clockOf s.l k s.clock)) x ⟨s.r, setVal (touch s.l k v3 s.clock) k v3, clockOf s.l k s.clock⟩ (setB B k ((B k).insertIdx d b)) Z N ∧
      Step w s (putMap encL w4 s.r (setVal (touch s.l k v3 s.clock) k v3) (clockOf s.l k s.clock)) ⟨s.r, setVal (touch s.l k v3 s.clock) k v3, clockOf s.l k s.clock⟩ := by
  have hxr : x ≠ s.r := fun e => h.free (.inl e)
  have hxv : (Value.slice (some ⟨g, off, none⟩) (B k).length cp).ownBlock ≠ some x := fun e => h.free (ho x e).1
  have hlt : s.r < w4.heap.size := Nat.lt_of_lt_of_le h.map.lt hF.size
  have htl : (setVal (touch s.l k v3 s.clock) k v3).length ≤ N := by
    have : touch s.l k v3 s.clock = s.l := by unfold touch; rw [hv]; rfl
    rw [this]; unfold setVal; rw [List.length_map]; exact h.keys
  have hv3r : v3.ownBlock ≠ some s.r := by
    intro e
    rcases hv3 with h3 | ⟨g', h3, h4⟩
    · rw [h3] at e; exact (ho _ e).2.1 rfl
    · rw [h3] at e; injection e with e; have := h.map.lt; omega
  have hFr : Frame (fun j => j ≠ s.r ∧ some j ≠ (Value.slice (some ⟨g, off, none⟩) (B k).length cp).ownBlock) w (putMap encL w4 s.r (setVal (touch s.l k v3 s.clock) k v3) (clockOf s.l k s.clock)) :=
    Frame.trans ⟨hF.os, hF.tape, hF.output, hF.size, fun j hj hA => hF.block j hj hA.2⟩ (.put _ _ _ _ (fun _ hj => hj.1))
  have hlp : ((B k).insertIdx d b).length = (B k).length + 1 := List.length_insertIdx_of_le_length hd b
  refine h.put hZ k (.slice (some ⟨g, off, none⟩) (B k).length cp) v3 _ (by omega) _ _ ?_ (putMap_at hlt _ _) (h.fresh.touch _ _ |>.setVal _ _) htl (fun e he => mem_touched he) (fun e he => touched_old he) (touched_new _ _ _ _ _) ho hv3 ?_ hFr ?_
  · refine VarAt.put ?_ hxr _ _
    unfold VarAt
    rw [hF.block x h.box.lt (fun e => hxv e.symm)]
    exact h.box
  · intro g' hg'
    rw [putMap_size]
    obtain ⟨ao, cap, rfl, h1, h2, h3, h4, h5⟩ := hT
    obtain ⟨g2, off2, rfl, _, hlt2, _⟩ := h5 (by omega)
    injection hg' with hg'
    rw [← hg']; exact hlt2
  · refine ⟨xs.insertIdx d pv, ?_, fun j u b2 hu hb2 => ?_⟩
    · rw [hlp]; exact hT.put hv3r _ _
    · have hq : RowOf encB 1 w u b2 ∧ ∀ g, u.ownBlock = some g → g < w.heap.size ∧ ¬ Avoid s Z g := by
        rcases insertIdx_pair hx (by omega) hu hb2 with ⟨rfl, rfl⟩ | ⟨j', h1, h2⟩
        · exact ⟨hrow, hpv⟩
        · exact hp j' u b2 h1 h2
      obtain ⟨q1, q2⟩ := hq
      refine ⟨q1.frame hFr (fun g hg => ⟨?_, ?_⟩), fun g hg => ⟨Nat.lt_of_lt_of_le (q2 g hg).1 hFr.size, ?_, fun ho2 => absurd (.inl ho2) (q2 g hg).2, fun hz => (q2 g hg).2 (.inr hz)⟩⟩
      · rintro rfl; exact (q2 _ hg).2 (.inl (.inl rfl))
      · intro e2; exact (q2 g hg).2 (.inl (ho g e2.symm).1)
      · intro e2
        rcases hv3 with h3 | ⟨g', h3, h4⟩
        · exact (q2 g hg).2 (.inl (ho g (by rw [← h3]; exact e2)).1)
        · rw [h3] at e2; injection e2 with e2; have := (q2 g hg).1; omega
/-- Move where there is no such packet, or no such place. -/
theorem c14none (h : NetAt w x s B Z N) (f t a d : Int) (ha : ¬ ((0 ≤ a ∧ a < (B (f, t)).length) ∧ (0 ≤ d ∧ d < (B (f, t)).length))) :
    Calls Try.prog 14 #[.pointer (some ⟨x, 0, none⟩), .int .i64 f, .int .i64 t, .int .i64 a, .int .i64 d] w fun e w' => e = .returned (.bool false) ∧ Below w.heap.size w w' := by
  refine gen fun R hR => ?_
  have h24 := fun o => c24 (h.alloc o) f t a
  by_cases h0 : 0 ≤ a ∧ a < (B (f, t)).length
  · have hd1 : decide (0 ≤ a ∧ a < (B (f, t)).length) = true := decide_eq_true h0
    have hd2 : decide (0 ≤ d ∧ d < (B (f, t)).length) = false := decide_eq_false (fun h1 => ha ⟨h0, h1⟩)
    have h24b := fun W (hW : NetAt W x s B Z N) => c24 hW f t d
    rw [hd1] at h24
    rw [hd2] at h24b
    have H := Lib.hid h
    clear h h0 ha hd1 hd2
    go_enter Try.func14, Try.ntmps14
    go_wp2_with (first
      | (go_at_call 24
         (with_reducible refine (h24 _).mono ?_)
         rintro e w1 ⟨rfl, hb1⟩
         have hb2 := (show Below w.heap.size w w1 by obtain ⟨q, os, rfl⟩ := hb1; exact ((Below.refl _ w).alloc (Nat.le_refl _) (.cells #[.int .i64 f, .int .i64 t] 54)).trans (Below.of_grow.mono (by simp)))
         have hK1 : VarAt w1 w.heap.size 54 [.int .i64 f, .int .i64 t] := by obtain ⟨q, os, rfl⟩ := hb1; exact (VarAt.new w 54 [.int .i64 f, .int .i64 t]).keep Below.of_grow (by simp)
         have e2 := hK1.cell (j := 0) (u := .int .i64 f) rfl
         have e3 := hK1.cell (j := 1) (u := .int .i64 t) rfl
         have h24c := h24b w1 (H.out.below hb2)
         clear hb1)
      | (go_at_call 24; refine h24c.mono ?_; rintro e w2 ⟨rfl, hb3⟩)
      | fail)
    go_tidy
    obtain ⟨q, os, rfl⟩ := hb3
    exact ⟨rfl, hb2.trans (Below.of_grow.mono hb2.size)⟩
  · have hd1 : decide (0 ≤ a ∧ a < (B (f, t)).length) = false := decide_eq_false h0
    rw [hd1] at h24
    clear h h0 ha hd1
    go_enter Try.func14, Try.ntmps14
    go_wp2_with (first | (go_at_call 24; (with_reducible refine (h24 _).mono ?_); rintro e w' ⟨rfl, hb⟩) | fail)
    go_tidy
    obtain ⟨q, os, rfl⟩ := hb
    exact ⟨rfl, ((Below.refl _ _).alloc (Nat.le_refl _) _).trans (Below.of_grow.mono (by simp))⟩
def MovePost (x i d : Nat) (s : NS) (B : Key → List (List Int)) (Z : Nat → Prop) (N : Nat) (k : Key) (w : World) (e : Ending) (w' : World) : Prop :=
  e = .returned (.bool true) ∧ ∃ b s', (B k)[i]? = some b ∧ NetAt w' x s' (setB B k (((B k).eraseIdx i).insertIdx d b)) Z N ∧ Step w s w' s'
set_option maxHeartbeats 4000000 in
set_option maxRecDepth 100000 in
theorem c14 (h : NetAt w x s B Z N) (hZ : ∀ j, Z j → j < w.heap.size) (f t : Int) (i d : Nat) (hi : i < (B (f, t)).length) (hd : d < (B (f, t)).length) :
    Calls Try.prog 14 #[.pointer (some ⟨x, 0, none⟩), .int .i64 f, .int .i64 t, .int .i64 i, .int .i64 d] w (MovePost x i d s B Z N (f, t) w) := by
  refine gen (S := MovePost x i d s B Z N (f, t) w) fun R hR => ?_
  have h24 := fun o => c24 (h.alloc o) f t i
  have hd1 : decide (0 ≤ (i : Int) ∧ (i : Int) < (B (f, t)).length) = true := decide_eq_true (by omega)
  have hd2 : decide (0 ≤ (d : Int) ∧ (d : Int) < (B (f, t)).length) = true := decide_eq_true (by omega)
  have h24b := fun W (hW : NetAt W x s B Z N) => c24 hW f t d
  rw [hd1] at h24
  rw [hd2] at h24b
  have H := Lib.hid h
  have HZ := Lib.hid hZ
  have lx := h.box.lt
  clear h hZ hd1 hd2
  go_enter Try.func14, Try.ntmps14
  go_wp2_with (first
    | (go_at_call 24
       (with_reducible refine (h24 _).mono ?_)
       rintro e w1 ⟨rfl, hb1⟩
       have hb2 := (show Below w.heap.size w w1 by obtain ⟨q, os, rfl⟩ := hb1; exact ((Below.refl _ w).alloc (Nat.le_refl _) (.cells #[.int .i64 f, .int .i64 t] 54)).trans (Below.of_grow.mono (by simp)))
       have hK1 : VarAt w1 w.heap.size 54 [.int .i64 f, .int .i64 t] := by obtain ⟨q, os, rfl⟩ := hb1; exact (VarAt.new w 54 [.int .i64 f, .int .i64 t]).keep Below.of_grow (by simp)
       have e2 := hK1.cell (j := 0) (u := .int .i64 f) rfl
       have e3 := hK1.cell (j := 1) (u := .int .i64 t) rfl
       have h24c := h24b w1 (H.out.below hb2)
       clear hb1)
    | (go_at_call 24
       refine h24c.mono ?_
       rintro e w2 ⟨rfl, hb3⟩
       have hb4 := (show Below w.heap.size w w2 by obtain ⟨q, os, rfl⟩ := hb3; exact hb2.trans (Below.of_grow.mono hb2.size))
       have HK2 := Lib.hid (show VarAt w2 w.heap.size 54 [.int .i64 f, .int .i64 t] by obtain ⟨q, os, rfl⟩ := hb3; exact hK1.keep Below.of_grow hK1.lt)
       have HN2 := Lib.hid (H.out.below hb4)
       have HB4 := Lib.hid hb4
       have h11 := c11r HN2.out (fun j hj => Nat.lt_of_lt_of_le (HZ.out j hj) hb4.size) f t i hi
       clear hb3 hb4)
    | (go_at_call 11
       refine h11.mono ?_
       rintro e w3 ⟨pv, b, rfl, hb, hrow, s3, hou, hN3, hst3, aa, cp, hval, hcp⟩
       have HE := Lib.hid hb
       have HROW := Lib.hid hrow
       have HOU := Lib.hid hou
       have HN3 := Lib.hid hN3
       have HST := Lib.hid hst3
       have HVAL := Lib.hid hval
       obtain ⟨pa, pc, rfl, -⟩ := id hrow
       clear hb hrow hou hN3 hst3 hval)
    | fail)
  have hlen3 : (setB B (f, t) ((B (f, t)).eraseIdx i) (f, t)).length = (B (f, t)).length - 1 := by rw [setB_same, List.length_eraseIdx, if_pos hi]
  have hsmall := H.out.small (f, t)
  have hu : (Value.slice pa b.length pc).oneCell' = true := rfl
  have HNC := Lib.hid (NetAt.drew (HN3.out.alloc (.cells #[.slice pa b.length pc] 22)))
  obtain ⟨va, cp2, xs, hv, hT, hp, ho⟩ := HNC.out.look (f, t)
  rw [HVAL.out] at hv
  simp only [Option.getD_some, Value.slice.injEq] at hv
  obtain ⟨rfl, -, rfl⟩ := hv
  have hxl : xs.length = (setB B (f, t) ((B (f, t)).eraseIdx i) (f, t)).length := by obtain ⟨_, _, _, h1, _⟩ := id hT; exact h1
  have hag : ∃ g off, aa = ⟨g, off, none⟩ := by
    obtain ⟨ao', cap', hv', hl', h2', h3', h4', h5'⟩ := id hT
    cases hv'
    obtain ⟨g, off, hag, _⟩ := h5' (by omega)
    injection hag with hag
    exact ⟨g, off, hag⟩
  obtain ⟨g, off, rfl⟩ := hag
  have h1 : ∀ y ∈ xs, y.oneCell' = true := fun y hy => by
    obtain ⟨j, hj⟩ := List.getElem?_of_mem hy
    have hj2 : j < (setB B (f, t) ((B (f, t)).eraseIdx i) (f, t)).length := by have := (List.getElem?_eq_some_iff.1 hj).1; omega
    exact (hp j y _ hj (List.getElem?_eq_getElem hj2)).1.one
  have hgl : g < w3.heap.size := (HN3.out.lt g (ho g rfl).1).1
  have h26 := c26 (i := d) (vb := w3.heap.size) hT h1 hu (by omega) (by omega) (by omega) (by omega) ((VarAt.new w3 22 [.slice pa b.length pc]).drew)
  have hlk : (Instr.lookup 60 (.map (some s3.r)) (.agg #[.int .i64 f, .int .i64 t]) false).run Try.prog w3.drew = .ok (.slice (some ⟨g, off, none⟩) ((B (f, t)).length - 1) cp) w3.drew := by rw [look54 HN3.out.drew.map f t, HVAL.out]; rfl
  have hlk2 : (Instr.lookup 60 (.map (some s3.r)) (.agg #[.int .i64 f, .int .i64 t]) false).run Try.prog (w3.alloc (.cells #[.slice pa b.length pc] 22)).drew = .ok (.slice (some ⟨g, off, none⟩) ((B (f, t)).length - 1) cp) (w3.alloc (.cells #[.slice pa b.length pc] 22)).drew := by rw [look54 HNC.out.map f t, HVAL.out]; rfl
  rw [hlen3] at h26
  have hxg : x ≠ g := fun e => HN3.out.free (ho x (by rw [e]; rfl)).1
  have hKg : w.heap.size ≠ g := fun e => by
    rcases HST.out.own _ (ho g rfl).1 with h5 | h5
    · have := (H.out.lt _ h5).1; omega
    · have := HK2.out.lt; omega
  have hKr : w.heap.size ≠ s3.r := fun e => by rw [HST.out.r] at e; have := H.out.map.lt; omega
  have hxr : x ≠ s3.r := fun e => HN3.out.free (.inl e)
  have HK3 := Lib.hid (show VarAt w3 w.heap.size 54 [.int .i64 f, .int .i64 t] by
    unfold VarAt
    rw [HST.out.frame.block _ HK2.out.lt (fun ho => by have := (H.out.lt _ ho).1; omega)]
    exact HK2.out)
  have e1 := HN3.out.box.cell (j := 0) (u := .map (some s3.r)) rfl
  have e4 := HK3.out.cell (j := 0) (u := .int .i64 f) rfl
  have e5 := HK3.out.cell (j := 1) (u := .int .i64 t) rfl
  have HT := Lib.hid hT
  have HP := Lib.hid hp
  have HO := Lib.hid ho
  have HX := Lib.hid hxl
  have HL3 := Lib.hid hlen3
  clear hT hp ho hxl hlen3 e2 e3 h24 h24b h24c h11 h1
  go_wp2_with fail
  go_region_held3 (fun w' => w'.cell? ⟨x, 0, none⟩ = some (.map (some s3.r)) ∧ w'.cell? ⟨w.heap.size, 0, none⟩ = some (.int .i64 f) ∧ w'.cell? ⟨w.heap.size, 1, none⟩ = some (.int .i64 t))
    (first
      | exact mkS hX4 hK4
      | exact mkS (hX4.put hxr _ _) (hK4.put hKr _ _)
      | go_keep
      | fail)
    (first
      | (go_at_call 26
         refine h26.mono ?_
         rintro e w4 ⟨v3, rfl, hT4, ho4, hF4⟩
         obtain ⟨a4, c4, rfl, -⟩ := id hT4
         have hX4 : VarAt w4 x 62 [.map (some s3.r)] := by unfold VarAt; rw [hF4.block x HNC.out.box.lt (fun e => hxg (by injection e))]; exact HNC.out.box
         have hK4 : VarAt w4 w.heap.size 54 [.int .i64 f, .int .i64 t] := by unfold VarAt; rw [hF4.block _ (HK3.out.alloc _).lt (fun e => hKg (by injection e))]; exact HK3.out.alloc _
         have hM4 : MapAt encL w4 s3.r s3.l s3.clock := by unfold MapAt; rw [hF4.block _ HNC.out.map.lt (fun e => (HO.out g rfl).2.1 (by injection e with e; exact e.symm))]; exact HNC.out.map
         have hmu : (Instr.mapUpdate 60 (.map (some s3.r)) (.agg #[.int .i64 f, .int .i64 t]) (.slice a4 ((B (f, t)).length - 1 + 1) c4)).run Try.prog w4 = .ok () (putMap encL w4 s3.r (setVal (touch s3.l (f, t) (.slice a4 ((B (f, t)).length - 1 + 1) c4) s3.clock) (f, t) (.slice a4 ((B (f, t)).length - 1 + 1) c4)) (clockOf s3.l (f, t) s3.clock)) := run_mapUpdate_made law54 underlying60 hM4 HNC.out.fresh (f, t) _)
      | fail)
  all_goals
    have HT4 := Lib.hid hT4
    have HF4 := Lib.hid hF4
    have HO4 := Lib.hid ho4
    clear hmu hT4 hF4 hX4 hK4 hM4 ho4
    go_wp2
    go_tidy
    have hbC : Below w3.heap.size w3 (w3.alloc (.cells #[.slice pa b.length pc] 22)).drew := ((Below.refl _ w3).alloc (Nat.le_refl _) _).drew
    have hz3 : ∀ j, Z j → j < w3.heap.size := fun j hj => Nat.lt_of_lt_of_le (Nat.lt_of_lt_of_le (HZ.out j hj) HB4.out.size) HST.out.frame.size
    have hfin := HNC.out.insert (d := d) (xs := xs) (b := b) (pv := .slice pa b.length pc) (fun j hj => Nat.lt_of_lt_of_le (hz3 j hj) hbC.size) (f, t) (by rw [HL3.out]; exact HVAL.out) HP.out HO.out HX.out (by rw [HL3.out]; omega) (by rw [HL3.out]; omega) (by rw [HL3.out]; exact HT4.out) (by rw [HL3.out]; exact HF4.out) (by rw [HL3.out]; exact HO4.out) (HROW.out.keep hbC) (fun g' hg' => ⟨Nat.lt_of_lt_of_le (HOU.out g' hg').1 hbC.size, (HOU.out g' hg').2⟩)
    rw [setB_setB', setB_same] at hfin
    exact ⟨rfl, b, _, HE.out, hfin.1, (Step.of_below HB4.out s).trans (HST.out.trans ((Step.of_below hbC s3).trans hfin.2))⟩
end
end Go.Proofs.Ytkkambhkfegodaa
