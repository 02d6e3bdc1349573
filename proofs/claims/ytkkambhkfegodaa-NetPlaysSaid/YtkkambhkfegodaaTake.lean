/- Take. Conditions: each law's own. -/
import Derived.Test.YtkkambhkfegodaaHas
import Derived.Test.YtkkambhkfegodaaDel
import Derived.Test.YtkkambhkfegodaaMaps2
namespace Go.Proofs.Ytkkambhkfegodaa
open Go.ChangeShapes Go.WideShapes Go.ChangeAt Go.RowKit

section
variable {w : World} {x : Nat} {s : NS} {B : Key → List (List Int)} {Z : Nat → Prop} {N : Nat}
/-- Take where there is no such packet. -/
theorem c11none (h : NetAt w x s B Z N) (f t a : Int) (ha : ¬ (0 ≤ a ∧ a < (B (f, t)).length)) :
    Calls Try.prog 11 #[.pointer (some ⟨x, 0, none⟩), .int .i64 f, .int .i64 t, .int .i64 a] w fun e w' => e = .returned (.tuple #[.slice none 0 0, .bool false]) ∧ Below w.heap.size w w' := by
  refine gen fun R hR => ?_
  have h24 := fun o => c24 (h.alloc o) f t a
  have hd : decide (0 ≤ a ∧ a < (B (f, t)).length) = false := decide_eq_false ha
  rw [hd] at h24
  clear h hd ha
  go_enter Try.func11, Try.ntmps11
  go_wp2_with (first | (go_at_call 24; (with_reducible refine (h24 _).mono ?_); rintro e w' ⟨rfl, hb⟩) | fail)
  go_tidy
  obtain ⟨q, os, rfl⟩ := hb
  exact ⟨rfl, ((Below.refl _ _).alloc (Nat.le_refl _) _).trans (Below.of_grow.mono (by simp))⟩
def TakePost (x i : Nat) (s : NS) (B : Key → List (List Int)) (Z : Nat → Prop) (N : Nat) (k : Key) (w : World) (e : Ending) (w' : World) : Prop :=
  ∃ pv b, e = .returned (.tuple #[pv, .bool true]) ∧ (B k)[i]? = some b ∧ RowOf encB 1 w' pv b ∧ ∃ s', (∀ g, pv.ownBlock = some g → g < w'.heap.size ∧ ¬ Avoid s' Z g) ∧ NetAt w' x s' (setB B k ((B k).eraseIdx i)) Z N ∧ Step w s w' s'
/-- .. and the bag has room for it again. -/
def TakePostR (x i : Nat) (s : NS) (B : Key → List (List Int)) (Z : Nat → Prop) (N : Nat) (k : Key) (w : World) (e : Ending) (w' : World) : Prop :=
  ∃ pv b, e = .returned (.tuple #[pv, .bool true]) ∧ (B k)[i]? = some b ∧ RowOf encB 1 w' pv b ∧ ∃ s', (∀ g, pv.ownBlock = some g → g < w'.heap.size ∧ ¬ Avoid s' Z g) ∧ NetAt w' x s' (setB B k ((B k).eraseIdx i)) Z N ∧ Step w s w' s' ∧
    ∃ a cp, valOf s'.l k = some (.slice (some a) ((B k).length - 1) cp) ∧ (B k).length ≤ cp
theorem valOf_touched (l : Ents) (k : Key) (z v : Value) (c : Nat) : valOf (setVal (touch l k z c) k v) k = some v := by
  cases h : valOf (setVal (touch l k z c) k v) k with
  | none =>
    obtain ⟨e, he, hk⟩ := touched_new l k z v c
    exact absurd hk (valOf_none h e he)
  | some u =>
    obtain ⟨e, he, hk, hu⟩ := valOf_some h
    rcases mem_touched he with ⟨_, h2⟩ | ⟨_, h2⟩
    · rw [← hu, h2]
    · exact absurd hk h2
/-- The bag without its packet number i. -/
theorem NetAt.drop {w w' : World} (h : NetAt w x s B Z N) (hZ : ∀ j, Z j → j < w.heap.size) (k : Key) {va : Option Addr} {cp i : Nat} {xs : List Value} (hv : (valOf s.l k).getD (.slice none 0 0) = .slice va (B k).length cp)
    (hp : ∀ (i : Nat) (u : Value) (b : List Int), xs[i]? = some u → (B k)[i]? = some b → RowOf encB 1 w u b ∧ ∀ g, u.ownBlock = some g → g < w.heap.size ∧ ¬ Avoid s Z g)
    (ho : ∀ g, (Value.slice va (B k).length cp).ownBlock = some g → Own s g ∧ g ≠ s.r ∧ ∀ e ∈ s.l, e.1 ≠ k → e.2.1.ownBlock ≠ some g)
    (hi : i < (B k).length) (hT : Tail w' 0 (.slice va ((B k).length - 1) cp) ((B k).length - 1) (xs.eraseIdx i)) (hF : Frame (fun j => some j ≠ (Value.slice va (B k).length cp).ownBlock) w w') :
    NetAt (putMap encL w' s.r (setVal (touch s.l k (.slice va ((B k).length - 1) cp) s.clock) k (.slice va ((B k).length - 1) cp)) (clockOf s.l k s.clock)) x ⟨s.r, setVal (touch s.l k (.slice va ((B k).length - 1) cp) s.clock) k (.slice va ((B k).length - 1) cp), clockOf s.l k s.clock⟩ (setB B k ((B k).eraseIdx i)) Z N ∧
      Step w s (putMap encL w' s.r (setVal (touch s.l k (.slice va ((B k).length - 1) cp) s.clock) k (.slice va ((B k).length - 1) cp)) (clockOf s.l k s.clock)) ⟨s.r, setVal (touch s.l k (.slice va ((B k).length - 1) cp) s.clock) k (.slice va ((B k).length - 1) cp), clockOf s.l k s.clock⟩ := by
  have hvs : ∃ v, valOf s.l k = some v := by
    cases hq : valOf s.l k with
    | some v => exact ⟨v, rfl⟩
    | none => rw [h.nobag k hq] at hi; exact absurd hi (by simp)
  obtain ⟨v, hvs⟩ := hvs
  have hxr : x ≠ s.r := fun e => h.free (.inl e)
  have hxv : (Value.slice va (B k).length cp).ownBlock ≠ some x := fun e => h.free (ho x e).1
  have hrv : (Value.slice va (B k).length cp).ownBlock ≠ some s.r := fun e => (ho _ e).2.1 rfl
  have hb3 : (Value.slice va ((B k).length - 1) cp).ownBlock = (Value.slice va (B k).length cp).ownBlock := by cases va <;> rfl
  have hlt : s.r < w'.heap.size := Nat.lt_of_lt_of_le h.map.lt hF.size
  have htl : (setVal (touch s.l k (.slice va ((B k).length - 1) cp) s.clock) k (.slice va ((B k).length - 1) cp)).length ≤ N := by
    have : touch s.l k (.slice va ((B k).length - 1) cp) s.clock = s.l := by unfold touch; rw [hvs]; rfl
    rw [this]; unfold setVal; rw [List.length_map]; exact h.keys
  have hFr : Frame (fun j => j ≠ s.r ∧ some j ≠ (Value.slice va (B k).length cp).ownBlock) w (putMap encL w' s.r (setVal (touch s.l k (.slice va ((B k).length - 1) cp) s.clock) k (.slice va ((B k).length - 1) cp)) (clockOf s.l k s.clock)) :=
    Frame.trans ⟨hF.os, hF.tape, hF.output, hF.size, fun j hj hA => hF.block j hj hA.2⟩ (.put _ _ _ _ (fun _ hj => hj.1))
  refine h.put hZ k (.slice va (B k).length cp) (.slice va ((B k).length - 1) cp) _ (by have := h.small k; rw [List.length_eraseIdx]; split <;> omega) _ _ ?_ (putMap_at hlt _ _) (h.fresh.touch _ _ |>.setVal _ _) htl (fun e he => mem_touched he) (fun e he => touched_old he) (touched_new _ _ _ _ _) ho (.inl hb3) ?_ hFr ?_
  · refine VarAt.put ?_ hxr _ _
    unfold VarAt
    rw [hF.block x h.box.lt (fun e => hxv e.symm)]
    exact h.box
  · intro g hg
    rw [putMap_size]
    exact Nat.lt_of_lt_of_le (h.lt g (ho g (by rw [← hb3]; exact hg)).1).1 hF.size
  · refine ⟨xs.eraseIdx i, ?_, fun j u b hu hb => ?_⟩
    · have : ((B k).eraseIdx i).length = (B k).length - 1 := by rw [List.length_eraseIdx, if_pos hi]
      rw [this]
      exact hT.put (by rw [hb3]; exact hrv) _ _
    · have hj : ∃ j' : Nat, xs[j']? = some u ∧ (B k)[j']? = some b := by
        rw [List.getElem?_eraseIdx] at hu hb
        split at hu
        · rename_i h1; rw [if_pos h1] at hb; exact ⟨j, hu, hb⟩
        · rename_i h1; rw [if_neg h1] at hb; exact ⟨j + 1, hu, hb⟩
      obtain ⟨j', hu', hb'⟩ := hj
      obtain ⟨q1, q2⟩ := hp j' u b hu' hb'
      refine ⟨q1.frame hFr (fun g hg => ⟨?_, ?_⟩), fun g hg => ⟨Nat.lt_of_lt_of_le (q2 g hg).1 hFr.size, ?_, fun ho2 => absurd (.inl ho2) (q2 g hg).2, fun hz => (q2 g hg).2 (.inr hz)⟩⟩
      · rintro rfl; exact (q2 _ hg).2 (.inl (.inl rfl))
      · intro e2; exact (q2 g hg).2 (.inl (ho g e2.symm).1)
      · intro e2; exact (q2 g hg).2 (.inl (ho g (by rw [← hb3]; exact e2)).1)
theorem RowOf.one {v : Value} {bs : List Int} {w : World} (h : RowOf encB 1 w v bs) : v.oneCell' = true := by obtain ⟨_, _, rfl, _⟩ := h; rfl
set_option maxHeartbeats 4000000 in
set_option maxRecDepth 100000 in
theorem c11r (h : NetAt w x s B Z N) (hZ : ∀ j, Z j → j < w.heap.size) (f t : Int) (i : Nat) (hi : i < (B (f, t)).length) :
    Calls Try.prog 11 #[.pointer (some ⟨x, 0, none⟩), .int .i64 f, .int .i64 t, .int .i64 i] w (TakePostR x i s B Z N (f, t) w) := by
  refine gen (S := TakePostR x i s B Z N (f, t) w) fun R hR => ?_
  have h24 := fun o => c24 (h.alloc o) f t i
  have hd : decide (0 ≤ (i : Int) ∧ (i : Int) < (B (f, t)).length) = true := decide_eq_true (by omega)
  rw [hd] at h24
  have H := Lib.hid h
  have HZ := Lib.hid hZ
  have lx := h.box.lt
  clear h hd hZ
  go_enter Try.func11, Try.ntmps11
  go_wp2_with (first
    | (go_at_call 24
       (with_reducible refine (h24 _).mono ?_)
       rintro e w1 ⟨rfl, hb1⟩
       have hb2 := (show Below w.heap.size w w1 by obtain ⟨q, os, rfl⟩ := hb1; exact ((Below.refl _ w).alloc (Nat.le_refl _) (.cells #[.int .i64 f, .int .i64 t] 54)).trans (Below.of_grow.mono (by simp)))
       have hK1 : VarAt w1 w.heap.size 54 [.int .i64 f, .int .i64 t] := by obtain ⟨q, os, rfl⟩ := hb1; exact (VarAt.new w 54 [.int .i64 f, .int .i64 t]).keep Below.of_grow (by simp)
       clear hb1)
    | fail)
  clear h24
  have hN1 := H.out.below hb2
  obtain ⟨va, cp, xs, hv, hT, hp, ho⟩ := hN1.look (f, t)
  have hxl : xs.length = (B (f, t)).length := by obtain ⟨_, _, _, h1, _⟩ := id hT; exact h1
  obtain ⟨u, hu⟩ : ∃ u, xs[i]? = some u := ⟨xs[i]'(by omega), List.getElem?_eq_getElem _⟩
  obtain ⟨b, hb⟩ : ∃ b, (B (f, t))[i]? = some b := ⟨(B (f, t))[i], List.getElem?_eq_getElem _⟩
  obtain ⟨g, off, rfl, _, hgl, hcu⟩ := hT.cell hu
  obtain ⟨hru, hou⟩ := hp i u b hu hb
  have h1 : ∀ y ∈ xs, y.oneCell' = true := fun y hy => by
    obtain ⟨j, hj⟩ := List.getElem?_of_mem hy
    have hj2 : j < (B (f, t)).length := by have := (List.getElem?_eq_some_iff.1 hj).1; omega
    exact (hp j y _ hj (List.getElem?_eq_getElem hj2)).1.one
  have hxg : x ≠ g := fun e => hN1.free (ho x (by rw [e]; rfl)).1
  have hKg : w.heap.size ≠ g := fun e => by
    have := (H.out.lt _ (ho g rfl).1).1; omega
  have hKr : w.heap.size ≠ s.r := fun e => by have := H.out.map.lt; omega
  have hxr : x ≠ s.r := fun e => H.out.free (.inl e)
  have hiL : (i : Int) < ((B (f, t)).length : Int) := by omega
  have hsm : (B (f, t)).length ≤ 64 := H.out.small _
  have hw1 : IntKind.i64.wrap ((i : Int) + 1) = (i : Int) + 1 := by simp [IntKind.wrap, IntKind.signed, IntKind.bits]; omega
  have e1 := hN1.box.cell (j := 0) (u := .map (some s.r)) rfl
  have e2 := hK1.cell (j := 0) (u := .int .i64 f) rfl
  have e3 := hK1.cell (j := 1) (u := .int .i64 t) rfl
  have hlk : ∀ n, (Instr.lookup 60 (.map (some s.r)) (.agg #[.int .i64 f, .int .i64 t]) false).run Try.prog (w1.drewN n) = .ok (.slice (some ⟨g, off, none⟩) (B (f, t)).length cp) (w1.drewN n) := fun n => by rw [look54 (hN1.map.drewN n) f t, hv]
  have hone := hru.one
  obtain ⟨ua, un, uc, rfl⟩ : ∃ ua un uc, u = .slice ua un uc := by obtain ⟨a, c, rfl, _⟩ := id hru; exact ⟨_, _, _, rfl⟩
  have KN := Lib.hid hN1
  have KB := Lib.hid hb2
  have KK := Lib.hid hK1
  have KT := Lib.hid hT
  have KV := Lib.hid hv
  have KP := Lib.hid hp
  have KO := Lib.hid ho
  have K1 := Lib.hid h1
  have KR := Lib.hid hru
  have KU := Lib.hid hou
  have KE := Lib.hid hb
  clear hN1 hb2 hK1 hT hv hp ho h1 hru hou hb hu hone
  generalize hLL : (B (f, t)).length = L at *
  have HLL := Lib.hid hLL
  clear hLL
  go_quiet (fail)
  generalize hW2 : w1.drewN nq = W2
  have d1 : W2.cell? ⟨x, 0, none⟩ = some (.map (some s.r)) := by rw [← hW2]; exact e1
  have d2 : W2.cell? ⟨w.heap.size, 0, none⟩ = some (.int .i64 f) := by rw [← hW2]; exact e2
  have d3 : W2.cell? ⟨w.heap.size, 1, none⟩ = some (.int .i64 t) := by rw [← hW2]; exact e3
  have hlk2 : (Instr.lookup 60 (.map (some s.r)) (.agg #[.int .i64 f, .int .i64 t]) false).run Try.prog W2.drew = .ok (.slice (some ⟨g, off, none⟩) L cp) W2.drew := by rw [← hW2]; exact hlk (nq + 1)
  have HW := Lib.hid hW2
  have hT2 : Tail W2.drew 0 (.slice (some ⟨g, off, none⟩) L cp) L xs := by rw [← hW2]; exact KT.out
  have hN2 := Lib.hid (show NetAt W2.drew x s B Z N by rw [← hW2]; exact KN.out.below (below_drewN (Below.refl _ w1) (nq + 1)))
  have hK2 := Lib.hid (show VarAt W2.drew w.heap.size 54 [.int .i64 f, .int .i64 t] by rw [← hW2]; exact KK.out)
  have h25 := c25 hT2 K1.out i hi
  clear e1 e2 e3 hlk hcu hW2 hT2
  go_wp2_with fail
  go_region_held3 (fun w' => w'.cell? ⟨x, 0, none⟩ = some (.map (some s.r)) ∧ w'.cell? ⟨w.heap.size, 0, none⟩ = some (.int .i64 f) ∧ w'.cell? ⟨w.heap.size, 1, none⟩ = some (.int .i64 t))
    (first
      | exact mkS hX3 hK3
      | exact mkS (hX3.put hxr _ _) (hK3.put hKr _ _)
      | go_keep
      | fail)
    (first
      | (go_at_call 25
         refine h25.mono ?_
         rintro e w3 ⟨rfl, hT3, hF3⟩
         have hX3 : VarAt w3 x 62 [.map (some s.r)] := by unfold VarAt; rw [hF3.block x hN2.out.box.lt (fun e => hxg (by injection e))]; exact hN2.out.box
         have hK3 : VarAt w3 w.heap.size 54 [.int .i64 f, .int .i64 t] := by unfold VarAt; rw [hF3.block _ hK2.out.lt (fun e => hKg (by injection e))]; exact hK2.out
         have hM3 : MapAt encL w3 s.r s.l s.clock := by unfold MapAt; rw [hF3.block _ hN2.out.map.lt (fun e => (KO.out g rfl).2.1 (by injection e with e; exact e.symm))]; exact hN2.out.map
         have hmu : (Instr.mapUpdate 60 (.map (some s.r)) (.agg #[.int .i64 f, .int .i64 t]) (.slice (some ⟨g, off, none⟩) (L - 1) cp)).run Try.prog w3 = .ok () (putMap encL w3 s.r (setVal (touch s.l (f, t) (.slice (some ⟨g, off, none⟩) (L - 1) cp) s.clock) (f, t) (.slice (some ⟨g, off, none⟩) (L - 1) cp)) (clockOf s.l (f, t) s.clock)) := run_mapUpdate_made law54 underlying60 hM3 hN2.out.fresh (f, t) _)
      | fail)
  have HT3 := Lib.hid hT3
  have HF3 := Lib.hid hF3
  clear hmu hT3 hF3 hX3 hK3 hM3
  go_wp2
  go_tidy
  have hL := HLL.out
  subst hL
  have hDW : W2.drew = w1.drewN (nq + 1) := by rw [← HW.out]; rfl
  have hsz : W2.drew.heap.size = w1.heap.size := by rw [hDW]; rfl
  have hd := hN2.out.drop (fun j hj => by rw [hsz]; exact Nat.lt_of_lt_of_le (HZ.out j hj) KB.out.size) (f, t) KV.out (by rw [hDW]; exact KP.out) KO.out hi HT3.out HF3.out
  have hcpL : (B (f, t)).length ≤ cp := by obtain ⟨_, _, hv, _, h2, _⟩ := KT.out; cases hv; exact h2
  have hr2 : RowOf encB 1 W2.drew (.slice ua un uc) b := by rw [hDW]; exact KR.out
  refine ⟨.slice ua un uc, b, rfl, KE.out, hr2.frame hd.2.frame (fun g hg ho => (KU.out g hg).2 (.inl ho)), _, fun g hg => ⟨?_, ?_⟩, hd.1, ((Step.of_below KB.out s).trans (Step.of_below (by rw [hDW]; exact below_drewN (Below.refl _ w1) (nq + 1)) s)).trans hd.2, ⟨g, off, none⟩, cp, valOf_touched _ _ _ _ _, hcpL⟩
  · have := (KU.out g hg).1
    rw [← hsz] at this
    exact Nat.lt_of_lt_of_le this hd.2.frame.size
  · rintro (ho | hz)
    · rcases hd.2.own g ho with h2 | h2
      · exact (KU.out g hg).2 (.inl h2)
      · have := (KU.out g hg).1
        omega
    · exact (KU.out g hg).2 (.inr hz)
theorem c11 (h : NetAt w x s B Z N) (hZ : ∀ j, Z j → j < w.heap.size) (f t : Int) (i : Nat) (hi : i < (B (f, t)).length) :
    Calls Try.prog 11 #[.pointer (some ⟨x, 0, none⟩), .int .i64 f, .int .i64 t, .int .i64 i] w (TakePost x i s B Z N (f, t) w) :=
  (c11r h hZ f t i hi).mono fun _ _ ⟨pv, b, h1, h2, h3, s', h4, h5, h6, _⟩ => ⟨pv, b, h1, h2, h3, s', h4, h5, h6⟩
end
end Go.Proofs.Ytkkambhkfegodaa
