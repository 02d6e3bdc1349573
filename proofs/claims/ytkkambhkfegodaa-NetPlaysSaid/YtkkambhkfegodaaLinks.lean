/- The links with packets, sorted. Conditions: each law's own. -/
import Derived.Test.YtkkambhkfegodaaCmp
import Derived.Test.YtkkambhkfegodaaLay
import Derived.Test.YtkkambhkfegodaaSortKit
import Derived.Maps.RangeRun
namespace Go.Proofs.Ytkkambhkfegodaa
open Go.ChangeShapes Go.WideShapes Go.ChangeAt Go.RowKit
open Go.ChangeMaps (setBlock)

def ltL (x y : Key) : Prop := x.1 < y.1 ∨ (x.1 = y.1 ∧ x.2 < y.2)
theorem ltOf_cmpL (x y : Key) : ltOf cmpL x y = true ↔ ltL x y := by
  unfold ltOf cmpL cmpI ltL
  simp only [decide_eq_true_eq]
  split <;> split <;> (try split) <;> (try split) <;> simp_all <;> omega
theorem ltOf_cmpL_false (x y : Key) : ltOf cmpL x y = false ↔ ¬ ltL x y := by
  rw [← ltOf_cmpL]; simp
theorem swoL : Go.Sort.SWO (ltOf cmpL) where
  irrefl x := by rw [ltOf_cmpL_false]; unfold ltL; omega
  trans x y z h1 h2 := by rw [ltOf_cmpL] at *; unfold ltL at *; omega
  ntrans x y z h1 h2 := by rw [ltOf_cmpL_false] at *; unfold ltL at *; omega
theorem lays28 (blk off size : Nat) (w : World) : CmpLays Try.prog 28 #[] encLL 2 cmpL blk off size w := fun _ _ _ _ x y => c28 x y _
def Sorted (w : World) (base : Nat) (ks : List Key) (v : Value) (e : Ending) (w' : World) : Prop :=
  e = .returned (.tuple #[]) ∧ ∃ ks' : List Key, ks'.Perm ks ∧ ks'.Pairwise (fun x y => ¬ ltL y x) ∧ RowOf encLL 2 w' v ks' ∧ Below base w w'
theorem c27 {w : World} {base : Nat} {v : Value} (ks : List Key) (h : w.ownsRow base 54 2 v ks.length (ks.flatMap encLL)) (hn : ks.length < 4611686018427387904) (hb : base ≤ w.heap.size) :
    Calls Try.prog 27 #[v, .func (.func 28) #[] #[]] w (Sorted w base ks v) := by
  obtain ⟨h1, ⟨rfl, h2⟩ | ⟨g, cap, cur, rfl, hbg, hg, hnc, hcm, hcs, ht⟩⟩ := id h
  · obtain rfl : ks = [] := List.eq_nil_of_length_eq_zero h2
    have hcon := AnyF.slices_SortFunc_none sortL none 0 (.func (.func 28) #[] #[]) w
    change Calls Try.prog 27 _ _ _ at hcon
    refine hcon.mono ?_
    rintro e w' ⟨rfl, rfl⟩
    exact ⟨rfl, [], .nil, .nil, RowOf.nil _ _ _, Below.refl _ _⟩
  · have hk : ∀ x, (encLL x).length = 2 := fun _ => rfl
    obtain ⟨hH, hb2, hlt⟩ := holds_owned hk h
    have eg : ∀ args w, (callFunc 28 args).run Try.prog w = .ok (.enter 28 args) w := enters_of Try.func28 (by kernel_rfl) rfl
    have hcon := AnyQ.slices_SortFunc sortL 2 Try.isAgg54 Try.sizeOf54 encLL hk (fun x v hv => by simp [encLL] at hv; rcases hv with rfl | rfl <;> rfl) cmpL swoL 28 #[] g 0 cap ks.toArray w eg (lays28 g 0 _ w) hH hlt (by simpa using hn)
    change Calls Try.prog 27 _ _ _ at hcon
    have hs : ks.toArray.size = ks.length := by simp
    refine hcon.mono ?_
    rintro e w' ⟨rfl, d', n, os, hp, hso, rfl⟩
    obtain ⟨p1, _, p2⟩ := hp
    refine ⟨rfl, d'.toList, ?_, ?_, ?_, sorted_below hb2 hb⟩
    · have e1 : (d'.extract 0 ks.toArray.size).toList = d'.toList := by rw [← p1]; simp
      have e2 : (ks.toArray.extract 0 ks.toArray.size).toList = ks := by simp
      rw [e1, e2] at p2; exact p2
    · rw [← p1] at hso
      exact (sorted_pairs hso).imp fun h => (ltOf_cmpL_false _ _).1 h
    · have := sorted_row hk (cap := cap) (n := n) (os := os) hH hlt p1 (by simpa using hnc) hcm
      rw [hs] at this
      exact this

/-! The entries that the loop has not had yet. -/
def left (l : Ents) (seen : Array Nat) : Ents := l.filter fun y => !seen.contains y.2.2
def lenV : Value → Nat | .slice _ n _ => n | _ => 0
def live (l : Ents) : List Key := (l.filter fun y => decide (0 < lenV y.2.1)).map (·.1)
theorem left_of (l : Ents) (seen : Array Nat) : leftOf (ents encL l) seen = ents encL (left l seen) := by
  unfold leftOf ents left
  apply Array.toList_inj.1
  simp only [Array.toList_filter, List.filter_map]
  congr 1
theorem left_none {l : Ents} {seen : Array Nat} (h : (leftOf (ents encL l) seen).size = 0) : left l seen = [] := by
  rw [left_of] at h
  simpa [ents] using h
theorem left_some {l : Ents} {seen : Array Nat} {e : MapEntry} (h : e ∈ (leftOf (ents encL l) seen).toList) : ∃ y ∈ left l seen, e = ent encL y := by
  rw [left_of] at h
  simp [ents] at h
  obtain ⟨a, b, v, c, hm, rfl⟩ := h
  exact ⟨_, hm, rfl⟩
theorem left_push : ∀ (l : Ents) (seen : Array Nat) (y : Key × Value × Nat), (l.map (·.2.2)).Nodup → y ∈ left l seen → (left l seen).Perm (y :: left l (seen.push y.2.2))
  | [], _, _, _, h => by cases h
  | x :: l, seen, y, hn, h => by
    rw [List.map_cons, List.nodup_cons] at hn
    have hc : ∀ b, (seen.push y.2.2).contains b = (seen.contains b || b == y.2.2) := fun b => Go.contains_push seen y.2.2 b
    by_cases hx : seen.contains x.2.2 = true
    · have e1 : left (x :: l) seen = left l seen := by unfold left; rw [List.filter_cons, hx]; rfl
      have e2 : left (x :: l) (seen.push y.2.2) = left l (seen.push y.2.2) := by unfold left; rw [List.filter_cons, hc, hx]; rfl
      rw [e1] at h ⊢; rw [e2]
      exact left_push l seen y hn.2 h
    · have hx' : seen.contains x.2.2 = false := by simpa using hx
      have e1 : left (x :: l) seen = x :: left l seen := by unfold left; rw [List.filter_cons, hx']; rfl
      rw [e1] at h ⊢
      by_cases hxy : x.2.2 = y.2.2
      · have hyx : y = x := by
          rcases List.mem_cons.1 h with h | h
          · exact h
          · have : y ∈ l := (List.mem_filter.1 h).1
            exact absurd (hxy ▸ List.mem_map_of_mem this) hn.1
        subst hyx
        have e2 : left (y :: l) (seen.push y.2.2) = left l (seen.push y.2.2) := by unfold left; rw [List.filter_cons, hc]; simp
        rw [e2]
        refine List.Perm.cons _ ?_
        have : left l (seen.push y.2.2) = left l seen := by
          unfold left
          refine List.filter_congr fun z hz => ?_
          have hz2 : z.2.2 ≠ y.2.2 := fun e => hn.1 (e ▸ List.mem_map_of_mem hz)
          rw [hc]; simp [hz2]
        rw [this]
      · have e2 : left (x :: l) (seen.push y.2.2) = x :: left l (seen.push y.2.2) := by unfold left; rw [List.filter_cons, hc, hx']; simp [hxy]
        rw [e2]
        have hy : y ∈ left l seen := by
          rcases List.mem_cons.1 h with h | h
          · exact absurd (by rw [h]) hxy
          · exact h
        exact ((left_push l seen y hn.2 hy).cons x).trans (List.Perm.swap y x _)
theorem live_perm {l l' : Ents} (h : l.Perm l') : (live l).Perm (live l') := (h.filter _).map _
theorem live_cons (y : Key × Value × Nat) (l : Ents) : live (y :: l) = if 0 < lenV y.2.1 then y.1 :: live l else live l := by
  unfold live; rw [List.filter_cons]; split <;> simp_all

theorem below_setBlock {b r : Nat} {w W : World} (h : Below b w W) (hr : b ≤ r) (o : Obj) : Below b w (setBlock W r o) :=
  ⟨h.os, h.tape, h.output, by simp [setBlock]; exact h.size, fun j hj => by
    have : (setBlock W r o).heap[j]? = W.heap[j]? := by simp [setBlock, show r ≠ j by omega]
    rw [this]; exact h.block j hj⟩

/-- The loop over the map. -/
def LinkRel (s : NS) (w : World) (out : Value) (wr : World) : Prop :=
  ∃ (seen : Array Nat) (c0 : Nat) (ks : List Key), wr.heap[w.heap.size]? = some (.mapIter (some s.r) s.clock seen c0) ∧ s.clock ≤ c0 ∧ wr.ownsRow (w.heap.size + 1) 54 2 out ks.length (ks.flatMap encLL) ∧
    (ks ++ live (left s.l seen)).Perm (live s.l) ∧ Below w.heap.size w wr ∧ w.heap.size < wr.heap.size
def LinksEnd (s : NS) (B : Key → List (List Int)) (w : World) (e : Ending) (w' : World) : Prop :=
  ∃ (v : Value) (ks : List Key), e = .returned v ∧ RowOf encLL 2 w' v ks ∧ ks.Pairwise ltL ∧ (∀ k, k ∈ ks ↔ B k ≠ []) ∧ ks.length ≤ s.l.length ∧ Below w.heap.size w w'
def LinksEndF (s : NS) (B : Key → List (List Int)) (w : World) (e : Ending) (w' : World) : Prop :=
  ∃ (v : Value) (ks : List Key), e = .returned v ∧ RowOf encLL 2 w' v ks ∧ ks.Pairwise ltL ∧ (∀ k, k ∈ ks ↔ B k ≠ []) ∧ ks.length ≤ s.l.length ∧ Below w.heap.size w w' ∧ ∀ g, v.ownBlock = some g → w.heap.size ≤ g
theorem NetAt.live {w : World} {x : Nat} {s : NS} {B : Key → List (List Int)} {Z : Nat → Prop} {N : Nat} (h : NetAt w x s B Z N) (k : Key) : k ∈ live s.l ↔ B k ≠ [] := by
  unfold Go.Proofs.Ytkkambhkfegodaa.live
  simp only [List.mem_map, List.mem_filter, decide_eq_true_eq]
  have hlen : ∀ y ∈ s.l, lenV y.2.1 = (B y.1).length := fun y hy => by
    obtain ⟨xs, ⟨ao, cap, hv, _⟩, _⟩ := h.bag y hy
    rw [hv]; rfl
  constructor
  · rintro ⟨y, ⟨hy, h0⟩, rfl⟩ e
    rw [hlen y hy, e] at h0
    simp at h0
  · intro hB
    cases hv : valOf s.l k with
    | none => exact absurd (h.nobag k hv) hB
    | some v =>
      obtain ⟨y, hy, rfl, _⟩ := valOf_some hv
      refine ⟨y, ⟨hy, ?_⟩, rfl⟩
      rw [hlen y hy]
      exact List.length_pos_iff.2 hB
theorem live_sub (l : Ents) : (live l).Sublist (l.map (·.1)) := (List.filter_sublist).map _
theorem rises {ks : List Key} (hn : ks.Nodup) (h : ks.Pairwise fun x y => ¬ ltL y x) : ks.Pairwise ltL := by
  refine (List.Pairwise.and hn h).imp ?_
  rintro ⟨a, b⟩ ⟨c, d⟩ ⟨h1, h2⟩
  unfold ltL at *
  have : ¬ (a = c ∧ b = d) := fun ⟨e1, e2⟩ => h1 (by rw [e1, e2])
  simp only at *
  omega
theorem iterSeen_of {w : World} {r : Nat} {m : Option Nat} {a c : Nat} {seen : Array Nat} (h : w.heap[r]? = some (.mapIter m a seen c)) : w.iterSeen r = seen := by simp [World.iterSeen, h]
theorem owns_iter {w : World} {base : Nat} {v : Value} {n : Nat} {xs : List Value} {e : TypeId} {size : Nat} (h : w.ownsRow base e size v n xs) {k : Nat} (hk : k < base) (o : Obj) : (setBlock w k o).ownsRow base e size v n xs := by
  obtain ⟨h1, h2⟩ := h
  refine ⟨h1, ?_⟩
  rcases h2 with h2 | ⟨g, cap, cur, a, b, c, d⟩
  · exact .inl h2
  · exact .inr ⟨g, cap, cur, a, b, by simp [setBlock, show k ≠ g by omega]; exact c, d⟩
theorem info54 : (Try.prog.info? 54).map (fun i => (i.zero, i.size, i.bytes)) = some (some (.agg #[.int .i64 0, .int .i64 0]), 2, 16) := by kernel_rfl
theorem underlying38 : Try.prog.underlying 38 = some (.slice 54) := by kernel_rfl

set_option maxHeartbeats 4000000 in
set_option maxRecDepth 100000 in
theorem c15f {w : World} {x : Nat} {s : NS} {B : Key → List (List Int)} {Z : Nat → Prop} {N : Nat} (h : NetAt w x s B Z N) (hN : N ≤ 100000) : Calls Try.prog 15 #[.pointer (some ⟨x, 0, none⟩)] w (LinksEndF s B w) := by
  refine gen (S := LinksEndF s B w) fun R hR => ?_
  have H := Lib.hid h
  have hbx := h.box.cell (j := 0) (u := .map (some s.r)) rfl
  have hxl := h.box.lt
  have hrg := run_range_map (P := Try.prog) w 60 54 56 s.r (ents encL s.l) s.clock underlying60 h.map
  clear h
  go_enter Try.func15, Try.ntmps15
  go_wp2
  go_loopw [3] (fun out wr => LinkRel s w out wr) (fun _ wr => (leftOf (ents encL s.l) (wr.iterSeen w.heap.size)).size)
  case atStart =>
    refine ⟨#[], s.clock, [], heap_alloc_new w _, Nat.le_refl _, World.ownsRow_nil _ _ 54 2, ?_, (Below.refl _ _).alloc (Nat.le_refl _) _, by simp⟩
    have : left s.l #[] = s.l := by unfold left; simp
    rw [this]; exact .refl _
  case round =>
    obtain ⟨seen, c0, ks, hit, hc0, how, hpm, hbl, hsz⟩ := hrel
    have hmr : wr.heap[s.r]? = some (.map (ents encL s.l) s.clock) := by rw [hbl.block s.r H.out.map.lt]; exact H.out.map
    have hold : ∀ e ∈ (ents encL s.l).toList, e.born < s.clock := by
      intro e he
      simp [ents] at he
      obtain ⟨a, b, v, c, hm, rfl⟩ := he
      exact H.out.fresh.2.1 _ hm
    rcases run_next_at (P := Try.prog) wr 0 w.heap.size s.r s.clock c0 seen (ents encL s.l) s.clock hit hmr hold hc0 with ⟨h0, hnx⟩ | ⟨e, he, w1, hw1, hnx⟩
    · have hl0 := left_none h0
      rw [hl0] at hpm
      have hpm' : ks.Perm (Go.Proofs.Ytkkambhkfegodaa.live s.l) := by simpa [Go.Proofs.Ytkkambhkfegodaa.live] using hpm
      have hnd : (Go.Proofs.Ytkkambhkfegodaa.live s.l).Nodup := H.out.fresh.2.2.sublist (live_sub _)
      have hle : ks.length ≤ s.l.length := by
        rw [hpm'.length_eq]
        have := (live_sub s.l).length_le
        simpa using this
      have hN' := H.out.keys
      have h27 := c27 ks how (by omega) hsz
      have hsl := hbl.size
      have HB := Lib.hid hbl
      have HOL := Lib.hid how.lt
      have HP := Lib.hid hpm'
      have HD := Lib.hid hnd
      have HL := Lib.hid hle
      clear hpm hpm' hold hmr hit how hbl hnd hle
      go_wp2_with (first | (go_at_call 27; refine h27.mono ?_; rintro e w' ⟨rfl, ks', hp', hs', hr', hb'⟩) | fail)
      go_tidy
      refine ⟨_, ks', rfl, hr', rises ((hp'.trans HP.out).nodup_iff.2 HD.out) hs', fun k => ?_, ?_, ?_, fun g hg => Nat.le_of_succ_le (HOL.out g hg).1⟩
      · rw [(hp'.trans HP.out).mem_iff]; exact H.out.live k
      · rw [hp'.length_eq]; exact HL.out
      · exact HB.out.trans (hb'.mono (Nat.le_succ _))
    · obtain ⟨y, hy, rfl⟩ := left_some he
      obtain ⟨hye, hys⟩ := mem_left he
      obtain ⟨⟨k1, k2⟩, v, b⟩ := y
      have hym : ((k1, k2), v, b) ∈ s.l := (List.mem_filter.1 hy).1
      obtain ⟨ao, n, cap, rfl⟩ : ∃ ao n cap, v = .slice ao n cap := by
        obtain ⟨xs, ⟨ao, cap, hv, _⟩, _⟩ := H.out.bag _ hym
        exact ⟨ao, _, cap, hv⟩
      generalize hW2 : setBlock w1 w.heap.size _ = W2 at hnx
      have hsz1 : w1.heap = wr.heap := by rcases hw1 with rfl | rfl <;> rfl
      have hbl1 : Below w.heap.size w w1 := by
        rcases hw1 with rfl | rfl
        · exact hbl
        · exact hbl.drew
      have hit2 : W2.heap[w.heap.size]? = some (.mapIter (some s.r) s.clock (seen.push b) s.clock) := by
        rw [← hW2]; simp [setBlock, hsz1, hsz, ent]
      have hbl2 : Below w.heap.size w W2 := by rw [← hW2]; exact below_setBlock hbl1 (Nat.le_refl _) _
      have hmr2 : W2.heap[s.r]? = some (.map (ents encL s.l) s.clock) := by rw [hbl2.block s.r H.out.map.lt]; exact H.out.map
      have how2 : W2.ownsRow (w.heap.size + 1) 54 2 u3 ks.length (ks.flatMap encLL) := by
        rw [← hW2]
        refine owns_iter ?_ (Nat.lt_succ_self _) _
        rcases hw1 with rfl | rfl
        · exact how
        · exact how.drew
      have hsz2 : w.heap.size + 1 ≤ W2.heap.size := by rw [← hW2]; simp [setBlock, hsz1]; omega
      have hen := run_entry_at (P := Try.prog) W2 w.heap.size s.r s.clock seen (ents encL s.l) s.clock _ hit2 hmr2 hye (by
        have := H.out.fresh.1
        simpa [ents, List.map_map, Function.comp_def, ent] using this)
      simp only [ent, encL] at hnx hen
      have hpp := left_push s.l seen _ H.out.fresh.1 hy
      have hmeas : (leftOf (ents encL s.l) (seen.push b)).size < (leftOf (ents encL s.l) seen).size := left_shrinks _ _ _ he
      have hseen := iterSeen_of hit
      have hle : ks.length ≤ s.l.length := by
        have h1 := hpm.length_eq
        have h2 := (live_sub s.l).length_le
        simp at h1 h2; omega
      have hN' := H.out.keys
      have hPM : 0 < n → (ks ++ [(k1, k2)] ++ Go.Proofs.Ytkkambhkfegodaa.live (left s.l (seen.push b))).Perm (Go.Proofs.Ytkkambhkfegodaa.live s.l) := fun h0 => by
        refine List.Perm.trans ?_ hpm
        rw [List.append_assoc]
        refine List.Perm.append_left _ ?_
        refine ((live_perm hpp).trans ?_).symm
        rw [live_cons, if_pos (by exact h0)]
        exact List.Perm.refl _
      have hPM0 : ¬ 0 < n → (ks ++ Go.Proofs.Ytkkambhkfegodaa.live (left s.l (seen.push b))).Perm (Go.Proofs.Ytkkambhkfegodaa.live s.l) := fun h0 => by
        refine List.Perm.trans ?_ hpm
        refine List.Perm.append_left _ ?_
        refine ((live_perm hpp).trans ?_).symm
        rw [live_cons, if_neg (by exact h0)]
      have HB := Lib.hid hbl2
      have HI := Lib.hid hit2
      have HO := Lib.hid how2
      have HM := Lib.hid hmeas
      have HS := Lib.hid hseen
      have HP := Lib.hid hPM
      have HP0 := Lib.hid hPM0
      have HL := Lib.hid hle
      clear hold hmr hit how hbl hpm hW2 hw1 hsz1 hbl1 hmr2 how2 hit2 hbl2 hpp hmeas hle hPM hPM0 hseen hy hye hys hym
      have hl : ks.length ≤ 100000 := Nat.le_trans HL.out (by omega)
      go_wp2_with (first
        | (at_builtin; (refine append_new (us := [.int .i64 k1, .int .i64 k2]) _ rfl (.tmp 21) (.tmp 23) 38 rfl (w.heap.size + 1) 54 (.agg #[.int .i64 0, .int .i64 0]) 2 16 underlying38 info54 rfl (by decide) rfl (by simp [Value.oneCell']) u3 ks.length _ (by rfl) (HO.out.alloc _) (by rw [World.size_alloc]; rfl) (by unfold maxLen; omega) (by omega) (by simp; omega) ?_); intro v' w3 hown3 hg3 hn3)
        | fail)
      · go_tidy
        rename_i h0
        have hi3 : w3.heap[w.heap.size]? = some (.mapIter (some s.r) s.clock (seen.push b) s.clock) := by
          rw [hg3.block w.heap.size (by simp; omega) (fun e => by have := (HO.out.lt _ e.symm).1; omega), Below.heap_alloc W2 _ _ (by omega)]
          exact HI.out
        have hs3 : W2.heap.size + 1 ≤ w3.heap.size := by simpa using hg3.size
        refine ⟨⟨seen.push b, s.clock, ks ++ [(k1, k2)], hi3, Nat.le_refl _, ?_, HP.out h0, (HB.out.alloc HB.out.size _).grown hg3 (by simp; omega) (fun k hk => by have := (HO.out.lt _ hk).1; omega), by omega⟩, ?_⟩
        · simpa [List.flatMap_append, encLL] using hown3
        · rw [iterSeen_of hi3, HS.out]; exact HM.out
      · go_tidy
        rename_i h0
        have hi3 : (W2.alloc (Obj.cells #[Value.int IntKind.i64 k1, Value.int IntKind.i64 k2] 54)).heap[w.heap.size]? = some (.mapIter (some s.r) s.clock (seen.push b) s.clock) := by
          rw [Below.heap_alloc W2 _ _ (by omega)]
          exact HI.out
        refine ⟨⟨seen.push b, s.clock, ks, hi3, Nat.le_refl _, HO.out.alloc _, HP0.out (by simpa using h0), HB.out.alloc HB.out.size _, by simp; omega⟩, ?_⟩
        rw [iterSeen_of hi3, HS.out]; exact HM.out
theorem c15 {w : World} {x : Nat} {s : NS} {B : Key → List (List Int)} {Z : Nat → Prop} {N : Nat} (h : NetAt w x s B Z N) (hN : N ≤ 100000) : Calls Try.prog 15 #[.pointer (some ⟨x, 0, none⟩)] w (LinksEnd s B w) :=
  (c15f h hN).mono fun _ _ ⟨v, ks, h1, h2, h3, h4, h5, h6, _⟩ => ⟨v, ks, h1, h2, h3, h4, h5, h6⟩
end Go.Proofs.Ytkkambhkfegodaa
