/- Clear. Conditions: each law's own. -/
import Derived.Test.YtkkambhkfegodaaBag
namespace Go.Proofs.Ytkkambhkfegodaa
open Go.ChangeShapes Go.WideShapes Go.ChangeAt Go.RowKit

section
variable {w : World} {x : Nat} {s : NS} {B : Key → List (List Int)} {Z : Nat → Prop} {N : Nat}
theorem mem_dropKey {l : Ents} {k : Key} {e : Key × Value × Nat} : e ∈ dropKey l k ↔ e ∈ l ∧ e.1 ≠ k := by
  unfold dropKey; rw [List.mem_filter]; simp
theorem dropKey_sub (l : Ents) (k : Key) : (dropKey l k).Sublist l := List.filter_sublist
/-- A link is deleted. -/
theorem NetAt.delete (h : NetAt w x s B Z N) (k : Key) :
    NetAt (putMap encL w s.r (dropKey s.l k) s.clock) x ⟨s.r, dropKey s.l k, s.clock⟩ (setB B k []) Z N ∧ Step w s (putMap encL w s.r (dropKey s.l k) s.clock) ⟨s.r, dropKey s.l k, s.clock⟩ := by
  have hown : ∀ j, Own ⟨s.r, dropKey s.l k, s.clock⟩ j → Own s j := by
    rintro j (rfl | ⟨e, he, hj⟩)
    · exact .inl rfl
    · exact .inr ⟨e, (mem_dropKey.1 he).1, hj⟩
  have hxr : x ≠ s.r := fun e => h.free (.inl e)
  have hF : Frame (fun j => j ≠ s.r) w (putMap encL w s.r (dropKey s.l k) s.clock) := .put _ _ _ _ (fun _ hj => hj)
  refine ⟨⟨h.box.put hxr _ _, putMap_at h.map.lt _ _, ⟨h.fresh.1.sublist ((dropKey_sub _ _).map _), fun e he => h.fresh.2.1 e (mem_dropKey.1 he).1, h.fresh.2.2.sublist ((dropKey_sub _ _).map _)⟩, fun ho => h.free (hown x ho), h.zx, fun j hj => by rw [putMap_size]; exact h.lt j (hown j hj),
    fun e he => h.rne e (mem_dropKey.1 he).1, fun e he e' he' => h.apart e (mem_dropKey.1 he).1 e' (mem_dropKey.1 he').1, fun e he => ?_, fun k' hk' => ?_, fun k' => ?_, Nat.le_trans (dropKey_sub _ _).length_le h.keys⟩, ⟨rfl, fun j hj => .inl (hown j hj), ⟨rfl, rfl, rfl, hF.size, fun j hj hA => hF.block j hj (fun e => hA (.inl e))⟩⟩⟩
  · obtain ⟨he1, he2⟩ := mem_dropKey.1 he
    rw [setB_other _ _ he2]
    exact (h.bag e he1).frame hF (fun g hg e2 => h.rne e he1 (by rw [hg, e2])) (fun g hg hC => ⟨fun e2 => hC (.inl (.inl e2)), fun hA => hC (hA.elim (fun ho => .inl (hown g ho)) .inr)⟩)
  · by_cases e : k' = k
    · rw [e, setB_same]
    · rw [setB_other _ _ e]
      refine h.nobag k' ?_
      cases hv : valOf s.l k' with
      | none => rfl
      | some u =>
        obtain ⟨y, hy, h1, _⟩ := valOf_some hv
        exact absurd h1 (valOf_none hk' y (mem_dropKey.2 ⟨hy, by rw [h1]; exact e⟩))
  · by_cases e : k' = k
    · rw [e, setB_same]; simp
    · rw [setB_other _ _ e]; exact h.small k'
def clearB (B : Key → List (List Int)) (to : Int) : Key → List (List Int) := fun k => if k.2 = to then [] else B k
def clearedB (B : Key → List (List Int)) (to : Int) (ks : List Key) : Key → List (List Int) := fun k => if k.2 = to ∧ k ∈ ks then [] else B k
theorem cleared_nil (B : Key → List (List Int)) (to : Int) : clearedB B to [] = B := by funext k; unfold clearedB; simp
theorem cleared_all {B : Key → List (List Int)} {to : Int} {ks : List Key} (h : ∀ k, k ∈ ks ↔ B k ≠ []) : clearedB B to ks = clearB B to := by
  funext k
  unfold clearedB clearB
  by_cases h1 : k.2 = to
  · simp only [h1, true_and, if_true]
    split
    · rfl
    · rename_i h2
      have := mt (h k).2 h2
      simpa using this
  · simp [h1]
theorem cleared_at {B : Key → List (List Int)} {to : Int} {ks : List Key} {k : Key} (h : k.2 = to) : setB (clearedB B to ks) k [] = clearedB B to (ks ++ [k]) := by
  funext k'
  unfold setB clearedB
  by_cases e : k' = k
  · subst e; simp [h]
  · simp [e]
theorem cleared_skip {B : Key → List (List Int)} {to : Int} {ks : List Key} {k : Key} (h : k.2 ≠ to) : clearedB B to (ks ++ [k]) = clearedB B to ks := by
  funext k'
  unfold clearedB
  by_cases e : k' = k
  · subst e; simp [h]
  · simp [e]
theorem cleared_not {B : Key → List (List Int)} {to : Int} {ks : List Key} {k : Key} (h : k ∉ ks) : clearedB B to ks k = B k := by unfold clearedB; simp [h]
def forTo (to : Int) (ks : List Key) : List Key := ks.filter fun k => decide (k.2 = to)
def ClearEnd (x : Nat) (s : NS) (B : Key → List (List Int)) (Z : Nat → Prop) (N : Nat) (to : Int) (w : World) (e : Ending) (w' : World) : Prop :=
  ∃ ks : List Key, ks.Pairwise ltL ∧ (∀ k, k ∈ ks ↔ B k ≠ []) ∧ e = .returned (.int .i64 (total B (forTo to ks) : Nat)) ∧ ∃ s', NetAt w' x s' (clearB B to) Z N ∧ Step w s w' s'
def ClearRel (w1 : World) (x : Nat) (s : NS) (B : Key → List (List Int)) (Z1 : Nat → Prop) (N : Nat) (to : Int) (ks : List Key) (c i : Value) (wr : World) : Prop :=
  ∃ j : Nat, j ≤ ks.length ∧ i = .int .i64 j ∧ c = .int .i64 (total B (forTo to (ks.take j)) : Nat) ∧ ∃ s', NetAt wr x s' (clearedB B to (ks.take j)) Z1 N ∧ Step w1 s wr s'
theorem forTo_push {to : Int} {ks : List Key} {k : Key} (h : k.2 = to) : forTo to (ks ++ [k]) = forTo to ks ++ [k] := by unfold forTo; rw [List.filter_append]; simp [h]
theorem forTo_skip {to : Int} {ks : List Key} {k : Key} (h : k.2 ≠ to) : forTo to (ks ++ [k]) = forTo to ks := by unfold forTo; rw [List.filter_append]; simp [h]
theorem total_push (B : Key → List (List Int)) (ks : List Key) (k : Key) : total B (ks ++ [k]) = total B ks + (B k).length := by unfold total; simp
theorem forTo_len (to : Int) (ks : List Key) : (forTo to ks).length ≤ ks.length := List.length_filter_le _ _
theorem RowOf.frameL {w w' : World} {A : Nat → Prop} (hf : Frame A w w') {v : Value} {ks : List Key} (h : RowOf encLL 2 w v ks) (hA : ∀ g, v.ownBlock = some g → A g) : RowOf encLL 2 w' v ks := by
  obtain ⟨a, cap, rfl, h1, h2, h3⟩ := h
  refine ⟨a, cap, rfl, h1, h2, fun hp => ?_⟩
  obtain ⟨b, o, rfl, hlt, hc⟩ := h3 hp
  refine ⟨b, o, rfl, Nat.lt_of_lt_of_le hlt hf.size, fun i j x u hx hu => ?_⟩
  rw [World.cell?_of_block (a := ⟨b, o + i * 2 + j, none⟩) (hf.block b hlt (hA b rfl))]
  exact hc i j x u hx hu
set_option maxHeartbeats 4000000 in
set_option maxRecDepth 100000 in
theorem c22 (h : NetAt w x s B Z N) (hZ : ∀ j, Z j → j < w.heap.size) (hN : N ≤ 100000) (to : Int) : Calls Try.prog 22 #[.pointer (some ⟨x, 0, none⟩), .int .i64 to] w (ClearEnd x s B Z N to w) := by
  refine gen (S := ClearEnd x s B Z N to w) fun R hR => ?_
  have h15 := c15f h hN
  have H := Lib.hid h
  have HZ := Lib.hid hZ
  clear h hZ
  go_enter Try.func22, Try.ntmps22
  go_wp2_with (first | (go_at_call 15; refine h15.mono ?_; rintro e w1 ⟨v, ks, rfl, hrow, hpw, hmem, hlen, hb, hfr⟩; obtain ⟨a, cap, rfl, hcap, -⟩ := id hrow) | fail)
  have hkl : ks.length ≤ 100000 := Nat.le_trans hlen (Nat.le_trans H.out.keys hN)
  have hN1 : NetAt w1 x s B (fun j => Z j ∨ (w.heap.size ≤ j ∧ j < w1.heap.size)) N :=
    H.out.keep (A := fun _ => True) (.of_below hb : Frame (fun _ => True) w w1) (fun j hj hz => ⟨trivial, fun h => h.elim hz (fun h => by omega)⟩)
  have HP := Lib.hid hpw
  have HK := Lib.hid hmem
  have HB := Lib.hid hb
  have HR := Lib.hid hrow
  have HFR := Lib.hid hfr
  have HN1 := Lib.hid hN1
  clear hpw hmem hlen hb hrow hfr hN1 h15
  go_loopw [5, 11] (fun c i wr => ClearRel w1 x s B (fun j => Z j ∨ (w.heap.size ≤ j ∧ j < w1.heap.size)) N to ks c i wr) (fun _ i _ => ks.length - (intOf i).toNat)
  case atStart =>
    refine ⟨0, by omega, rfl, rfl, s, ?_, Step.refl _ _⟩
    rw [List.take_zero, cleared_nil]; exact HN1.out
  case round =>
    obtain ⟨j, hj, rfl, rfl, s2, hN2, hst2⟩ := hrel
    rcases Nat.lt_or_ge j ks.length with hlt | hge
    · have hrow2 : RowOf encLL 2 wr (.slice a ks.length cap) ks := HR.out.frameL hst2.frame (fun g hg ho => by have := (H.out.lt g ho).1; have := HFR.out g hg; omega)
      obtain ⟨b, o, ⟨k1, k2⟩, rfl, hbl, hk, hc0, hc1⟩ := hrow2.at54 hlt
      have hnd : ks.Nodup := HP.out.imp (by rintro a b h rfl; unfold ltL at h; omega)
      have hnot : (k1, k2) ∉ ks.take j := by
        intro hm
        obtain ⟨i, hi⟩ := List.getElem?_of_mem hm
        rw [List.getElem?_take] at hi
        split at hi
        · have := nodup_at hnd hi hk; omega
        · cases hi
      have htk : ks.take (j + 1) = ks.take j ++ [(k1, k2)] := (take_push hk).symm
      have HN2 := Lib.hid hN2
      have HST := Lib.hid hst2
      have HNT := Lib.hid hnot
      have HTK := Lib.hid htk
      clear hN2 hst2 hrow2 hk hnd hnot htk
      by_cases hto : k2 = to
      · subst hto
        go_wp2
        generalize hW : (World.alloc _ _) = W1
        have hNW : NetAt W1 x s2 (clearedB B k2 (ks.take j)) (fun j => Z j ∨ (w.heap.size ≤ j ∧ j < w1.heap.size)) N := by rw [← hW]; exact HN2.out.alloc _
        have hKW : VarAt W1 wr.heap.size 54 [.int .i64 k1, .int .i64 k2] := by rw [← hW]; exact VarAt.new wr 54 [.int .i64 k1, .int .i64 k2]
        have hSW : Step w1 s W1 s2 := by rw [← hW]; exact HST.out.trans (Step.of_below ((Below.refl _ _).alloc (Nat.le_refl _) _) s2)
        have e1 := hNW.box.cell (j := 0) (u := .map (some s2.r)) rfl
        have e2 := hKW.cell (j := 0) (u := .int .i64 k1) rfl
        have e3 := hKW.cell (j := 1) (u := .int .i64 k2) rfl
        have hKr : wr.heap.size ≠ s2.r := fun e => by have := HN2.out.map.lt; omega
        have hxr : x ≠ s2.r := fun e => HN2.out.free (.inl e)
        obtain ⟨va, cp, xs, hv, -⟩ := hNW.look (k1, k2)
        rw [cleared_not HNT.out] at hv
        have hlk : ∀ n, (Instr.lookup 60 (.map (some s2.r)) (.agg #[.int .i64 k1, .int .i64 k2]) false).run Try.prog (W1.drewN n) = .ok (.slice va (B (k1, k2)).length cp) (W1.drewN n) := fun n => by rw [look54 (hNW.map.drewN n) k1 k2, hv]
        have hsm : total B (forTo k2 (ks.take j)) ≤ 100000 * 64 := Nat.le_trans (total_le B H.out.small _) (Nat.mul_le_mul_right _ (Nat.le_trans (forTo_len _ _) (by simp; omega)))
        have hsm2 : (B (k1, k2)).length ≤ 64 := H.out.small _
        generalize hTT : total B (forTo k2 (ks.take j)) = T at *
        generalize hLL : (B (k1, k2)).length = L at *
        have hw : IntKind.i64.wrap ((T : Int) + (L : Int)) = ((T + L : Nat) : Int) := by
          simp [IntKind.wrap, IntKind.signed, IntKind.bits]; omega
        have HNW := Lib.hid hNW
        have HKW := Lib.hid hKW
        have HSW := Lib.hid hSW
        have HTT := Lib.hid hTT
        have HLL := Lib.hid hLL
        have HW := Lib.hid hw
        clear hW hNW hKW hSW hTT hLL hv hw
        go_quiet (fail)
        generalize hW2 : W1.drewN nq = W2
        have hN2 : NetAt W2.drew x s2 (clearedB B k2 (ks.take j)) (fun j => Z j ∨ (w.heap.size ≤ j ∧ j < w1.heap.size)) N := by rw [← hW2]; exact HNW.out.below (below_drewN (Below.refl _ W1) (nq + 1))
        have hK2 : VarAt W2.drew wr.heap.size 54 [.int .i64 k1, .int .i64 k2] := by rw [← hW2]; exact HKW.out
        have hS2 : Step w1 s W2.drew s2 := by rw [← hW2]; exact HSW.out.trans (Step.of_below (below_drewN (Below.refl _ W1) (nq + 1)) s2)
        have d1 : W2.cell? ⟨x, 0, none⟩ = some (.map (some s2.r)) := by rw [← hW2]; exact e1
        have d2 : W2.cell? ⟨wr.heap.size, 0, none⟩ = some (.int .i64 k1) := by rw [← hW2]; exact e2
        have d3 : W2.cell? ⟨wr.heap.size, 1, none⟩ = some (.int .i64 k2) := by rw [← hW2]; exact e3
        have hdel : ∀ ty, (Builtin.delete_ #[60, 54] ty #[.map (some s2.r), .agg #[.int .i64 k1, .int .i64 k2]]).run Try.prog W2.drew = .ok (.tuple #[]) (putMap encL W2.drew s2.r (dropKey s2.l (k1, k2)) s2.clock) := fun ty => run_delete_made law54 rfl underlying60 hN2.map hN2.fresh (k1, k2)
        have HK2 := Lib.hid hK2
        have HND := Lib.hid (hN2.delete (k1, k2))
        have HX2 := Lib.hid hN2.box
        have HS2 := Lib.hid hS2
        clear e1 e2 e3 hlk hW2 hN2 hK2 hS2
        go_wp2_with fail
        go_region_held3 (fun w' => w'.cell? ⟨x, 0, none⟩ = some (.map (some s2.r)) ∧ w'.cell? ⟨wr.heap.size, 0, none⟩ = some (.int .i64 k1) ∧ w'.cell? ⟨wr.heap.size, 1, none⟩ = some (.int .i64 k2))
          (first
            | exact mkS (HX2.out.put hxr _ _) (HK2.out.put hKr _ _)
            | go_keep
            | fail)
          (fail)
        go_wp2
        go_tidy
        obtain ⟨q1, q2⟩ := HND.out
        rw [cleared_at (to := k2) (k := (k1, k2)) rfl, ← HTK.out] at q1
        refine ⟨⟨j + 1, by omega, rfl, ?_, _, q1, HS2.out.trans q2⟩, by simp [intOf]; omega⟩
        rw [HTK.out, forTo_push (to := k2) (k := (k1, k2)) rfl, total_push, HTT.out, HLL.out, Int.natCast_add]
      · have hto2 : ¬ (k2 = to) := hto
        go_wp2
        go_tidy
        refine ⟨⟨j + 1, by omega, rfl, ?_, s2, ?_, HST.out.trans (Step.of_below ((Below.refl _ _).alloc (Nat.le_refl _) _) s2)⟩, by simp [intOf]; omega⟩
        · rw [HTK.out, forTo_skip hto]
        · rw [HTK.out, cleared_skip hto]; exact HN2.out.alloc _
    · obtain rfl : j = ks.length := by omega
      have HN2 := Lib.hid hN2
      have HST := Lib.hid hst2
      clear hN2 hst2
      go_wp2
      go_tidy
      have hN2 := HN2.out
      rw [List.take_length, cleared_all HK.out] at hN2
      refine ⟨ks, HP.out, HK.out, by rw [List.take_length]; rfl, s2, hN2.keep (A := fun _ => True) (.refl _ _) (fun j _ hz => ⟨trivial, fun h => hz (.inl h)⟩), (Step.of_below HB.out s).trans HST.out⟩
end
end Go.Proofs.Ytkkambhkfegodaa
