/- What one's stamp is. Conditions: each law's own. -/
import Derived.Test.YtamjdghjaimihaaIMap
import Derived.Test.YtamjdghjaimihaaQSpec
namespace Go.Proofs.Ytamjdghjaimihaa
open Go.ChangeShapes Go.WideShapes Go.ChangeAt Go.RowKit
open Go.ChangeMaps (setBlock)

theorem iterSeen_of {w : World} {r : Nat} {m : Option Nat} {a c : Nat} {seen : Array Nat} (h : w.heap[r]? = some (.mapIter m a seen c)) : w.iterSeen r = seen := by simp [World.iterSeen, h]
def StampEnd (v : Int) (w : World) (e : Ending) (w' : World) : Prop := e = .returned (.int .u64 v) ∧ ∃ q os, w' = Go.Sort.grow (w.drewN q) os
def StampRel (w : World) (m clock : Nat) (l : IEnts) (own : Int) (s : Value) (wr : World) : Prop :=
  ∃ (n c0 : Nat) (seen : Array Nat) (vis : IEnts), wr = (w.drewN n).alloc (.mapIter (some m) clock seen c0) ∧ clock ≤ c0 ∧ s = .int .u64 (mostOf own vis) ∧ (vis ++ leftI l seen).Perm l
set_option maxRecDepth 100000 in
theorem c37 {w : World} {b m clock : Nat} {l : IEnts} {s q own : Int} {gs : Value} {f : Bool} (h : VarAt w b 84 (encOne s q gs own (.map (some m)) f)) (hm : IMap w m l clock) (hF : IFresh l clock) :
    Calls Try.prog 37 #[.pointer (some ⟨b, 0, none⟩)] w (StampEnd (if f then mostOf own l else own) w) := by
  refine gen (S := StampEnd (if f then mostOf own l else own) w) fun R hR => ?_
  have g2 := h.cell (j := 3) (u := .int .u64 own) rfl
  have g3 := h.cell (j := 4) (u := .map (some m)) rfl
  have g4 := h.cell (j := 5) (u := .bool f) rfl
  have hbl := h.lt
  cases f with
  | false =>
    have out : R (.returned (.int .u64 own)) w := hR _ _ ⟨rfl, 0, #[], by simp [Go.Sort.grow, World.drewN]⟩
    have OUT := Lib.hid out
    clear h hm hF hR out
    go_enter Try.func37, Try.ntmps37
    go_wp2
    go_tidy
    exact OUT.out
  | true =>
    have hrg := run_range_map (P := Try.prog) w 82 3 26 m (entsI l) clock und82 hm
    have hold : ∀ x ∈ (entsI l).toList, x.born < clock := fun x hx => by
      simp only [entsI, List.mem_map] at hx
      obtain ⟨y, hy, rfl⟩ := hx
      exact hF.below y hy
    have hnd : ((entsI l).toList.map (·.born)).Nodup := by simpa [entsI, List.map_map, Function.comp_def, entI] using hF.borns
    have HM := Lib.hid hm
    have HF := Lib.hid hF
    have HOLD := Lib.hid hold
    have HND := Lib.hid hnd
    have HR := Lib.hid hR
    clear h hm hF hold hnd hR
    go_enter Try.func37, Try.ntmps37
    go_wp2
    go_loopw [3] (fun s wr => StampRel w m clock l own s wr) (fun _ wr => (leftOf (entsI l) (wr.iterSeen w.heap.size)).size)
    case atStart => exact ⟨0, clock, #[], [], rfl, Nat.le_refl _, rfl, by
      have : leftI l #[] = l := by unfold leftI; simp
      rw [this]; exact .refl _⟩
    case round =>
      obtain ⟨n, c0, seen, vis, rfl, hc0, rfl, hp⟩ := hrel
      have hit : ((w.drewN n).alloc (.mapIter (some m) clock seen c0)).heap[w.heap.size]? = some (.mapIter (some m) clock seen c0) := heap_alloc_new (w.drewN n) _
      have hmr : ((w.drewN n).alloc (.mapIter (some m) clock seen c0)).heap[m]? = some (.map (entsI l) clock) := by rw [heap_alloc_old (w.drewN n) _ HM.out.lt]; exact HM.out
      have hs := iterSeen_of hit
      rcases run_next_at (P := Try.prog) ((w.drewN n).alloc (.mapIter (some m) clock seen c0)) 0 w.heap.size m clock c0 seen (entsI l) clock hit hmr HOLD.out hc0 with ⟨h0, hnx⟩ | ⟨e, he, w2, hw2, hnx⟩
      · have hl0 := leftI_none h0
        rw [hl0, List.append_nil] at hp
        have HP := Lib.hid hp
        clear hit hmr hs h0 hl0 hc0 hrg
        go_wp2
        go_tidy
        refine HR.out _ _ ⟨by rw [mostOf_perm HP.out]; rfl, n, #[.mapIter (some m) clock seen c0], ?_⟩
        rw [Go.Sort.alloc_eq_grow]
      · obtain ⟨y, hy, rfl⟩ := leftI_some he
        have hpp := leftI_push l seen y HF.out.borns hy
        have hW : ∃ n', setBlock w2 w.heap.size (.mapIter (some m) clock (seen.push (entI y).born) clock) = (w.drewN n').alloc (.mapIter (some m) clock (seen.push y.2.2) clock) := by
          rcases hw2 with rfl | rfl
          · exact ⟨n, setBlock_last w n _ _⟩
          · exact ⟨n + 1, by rw [drew_alloc_drewN]; exact setBlock_last w (n + 1) _ _⟩
        obtain ⟨n', hW⟩ := hW
        rw [hW] at hnx
        have hit2 : ((w.drewN n').alloc (.mapIter (some m) clock (seen.push y.2.2) clock)).heap[w.heap.size]? = some (.mapIter (some m) clock (seen.push y.2.2) clock) := heap_alloc_new (w.drewN n') _
        have hmr2 : ((w.drewN n').alloc (.mapIter (some m) clock (seen.push y.2.2) clock)).heap[m]? = some (.map (entsI l) clock) := by rw [heap_alloc_old (w.drewN n') _ HM.out.lt]; exact HM.out
        have hye : entI y ∈ (entsI l).toList := by
          have : y ∈ l := (List.mem_filter.1 hy).1
          simp only [entsI, List.mem_map]
          exact ⟨y, this, rfl⟩
        have hen := run_entry_at (P := Try.prog) _ w.heap.size m clock seen (entsI l) clock (entI y) hit2 hmr2 hye HND.out
        have hmeas : (leftOf (entsI l) (seen.push y.2.2)).size < (leftOf (entsI l) seen).size := by
          rw [leftI_of, leftI_of]
          have := hpp.length_eq
          simp [entsI] at this ⊢
          omega
        have hs2 := iterSeen_of hit2
        obtain ⟨k, v, bn⟩ := y
        simp only [entI] at hnx hen
        have HPP := Lib.hid hpp
        have HP := Lib.hid hp
        have HME := Lib.hid hmeas
        have HS := Lib.hid hs
        have HS2 := Lib.hid hs2
        clear hit hmr hs hc0 hrg hy he hpp hW hw2 hit2 hmr2 hye hmeas hs2 hp
        go_wp2
        go_tidy
        refine ⟨⟨n', clock, seen.push bn, vis ++ [(k, v, bn)], rfl, Nat.le_refl _, ?_, ?_⟩, by rw [HS.out, HS2.out]; exact HME.out⟩
        · rw [mostOf_append]
          have : (if mostOf own vis < v then v else mostOf own vis) = max (mostOf own vis) v := by omega
          rw [this]
        · refine List.Perm.trans ?_ HP.out
          rw [List.append_assoc]
          exact List.Perm.append_left _ HPP.out.symm
/-- Compare at numbers that are no NaN. -/
theorem c58 (x : Int) (w : World) : Calls Try.prog 58 #[.int .u64 x] w fun e w' => e = .returned (.bool false) ∧ w' = w := by
  refine gen fun R hR => ?_
  go_enter Try.func58, Try.ntmps58
  go_wp2
  all_goals
    go_tidy
    exact hR _ _ ⟨rfl, rfl⟩
def cmpI (x y : Int) : Int := if x < y then -1 else if y < x then 1 else 0
theorem c51 (x y : Int) (w : World) : Calls Try.prog 51 #[.int .u64 x, .int .u64 y] w fun e w' => e = .returned (.int .i64 (cmpI x y)) ∧ w' = w := by
  refine gen fun R hR => ?_
  by_cases h1 : x < y
  · have hc : cmpI x y = -1 := by unfold cmpI; rw [if_pos h1]
    rw [hc] at hR
    clear hc
    go_enter Try.func51, Try.ntmps51
    go_wp2_with (first | (go_at_call 58; refine (c58 _ _).mono ?_; rintro e w' ⟨rfl, rfl⟩) | fail)
    all_goals go_tidy
    all_goals first | exact hR _ _ ⟨rfl, rfl⟩ | exact ⟨rfl, rfl⟩
  · have h1f : decide (x < y) = false := decide_eq_false h1
    by_cases h2 : y < x
    · have hc : cmpI x y = 1 := by unfold cmpI; rw [if_neg h1, if_pos h2]
      rw [hc] at hR
      clear hc h1
      go_enter Try.func51, Try.ntmps51
      go_wp2_with (first | (go_at_call 58; refine (c58 _ _).mono ?_; rintro e w' ⟨rfl, rfl⟩) | fail)
      all_goals go_tidy
      all_goals first | exact hR _ _ ⟨rfl, rfl⟩ | exact ⟨rfl, rfl⟩ | omega
    · have h2f : decide (y < x) = false := decide_eq_false h2
      have hc : cmpI x y = 0 := by unfold cmpI; rw [if_neg h1, if_neg h2]
      rw [hc] at hR
      clear hc h1 h2
      go_enter Try.func51, Try.ntmps51
      go_wp2_with (first | (go_at_call 58; refine (c58 _ _).mono ?_; rintro e w' ⟨rfl, rfl⟩) | fail)
      all_goals go_tidy
      all_goals first | exact hR _ _ ⟨rfl, rfl⟩ | exact ⟨rfl, rfl⟩ | (simp at h1f h2f; omega)
theorem c52 (a b : IdD) (w : World) : Calls Try.prog 52 #[.agg #[.int .i64 a.s, .int .i64 a.q], .agg #[.int .i64 b.s, .int .i64 b.q]] w fun e w' => e = .returned (.bool (lessId a b)) ∧ ∃ q os, w' = Go.Sort.grow (w.drewN q) os := by
  obtain ⟨s, q⟩ := a
  obtain ⟨u, v⟩ := b
  refine gen fun R hR => ?_
  go_enter Try.func52, Try.ntmps52
  go_wp2
  all_goals
    go_tidy
    refine ⟨?_, 0, _, by rw [Go.Sort.alloc_eq_grow, Go.Sort.alloc_eq_grow, Go.Sort.grow_grow]; rfl⟩
    first
      | (unfold lessId; simp_all; done)
      | (refine congrArg (fun b => Ending.returned (.bool b)) (a₂ := lessId ⟨s, q⟩ ⟨u, v⟩) ?_
         unfold lessId; simp_all)
      | (subst_vars
         refine congrArg (fun b => Ending.returned (.bool b)) (a₂ := lessId ⟨u, q⟩ ⟨u, v⟩) ?_
         unfold lessId; simp)
end Go.Proofs.Ytamjdghjaimihaa
