/- The reference: the next one is let go. Conditions: each law's own. -/
import Derived.Test.YtamjdghjaimihaaRNext
namespace Go.Proofs.Ytamjdghjaimihaa
open Go.ChangeShapes Go.WideShapes Go.ChangeAt Go.RowKit

def REnd (x : Nat) (g : Int) (B : Nat) (w : World) (L : List RefO) (lv : Value) (r : Value) (S' : QS) (e : Ending) (w' : World) : Prop :=
  e = .returned r ∧ ∃ (L' : List RefO) (lv' : Value), RefAt w' x g S' L' lv' B ∧ RStep x w L lv w' L' lv'
theorem erase_filter {L : List OneD} {k : Nat} {o : OneD} (ha : Apart L) (ho : L[k]? = some o) : L.eraseIdx k = L.filter fun z => decide (z.id ≠ o.id) := by
  induction L generalizing k with
  | nil => simp at ho
  | cons a L ih =>
    unfold Apart at ha
    rw [List.pairwise_cons] at ha
    cases k with
    | zero =>
      simp at ho
      subst ho
      rw [List.filter_cons]
      simp only [ne_eq, not_true_eq_false, decide_false, Bool.false_eq_true, if_false, List.eraseIdx_zero, List.tail_cons]
      symm
      rw [List.filter_eq_self]
      intro z hz
      simpa using Ne.symm (ha.1 z hz)
    | succ k =>
      simp at ho
      have hne : a.id ≠ o.id := ha.1 o (List.mem_of_getElem? ho)
      rw [List.filter_cons]
      simp only [ne_eq, hne, not_false_eq_true, decide_true, if_true, List.eraseIdx_cons_succ]
      congr 1
      simpa using ih ha.2 ho
section
variable {w : World} {x : Nat} {g : Int} {S : QS} {L : List RefO} {lv : Value} {B : Nat}
/-- A new row is stored. -/
theorem RefAt.put (h : RefAt w x g S L lv B) {W : World} {v' : Value} {L' : List RefO} {S' : QS} (hb : Below w.heap.size w W) (hrow : W.ownsRow w.heap.size 55 7 v' L'.length (L'.flatMap encR)) (hc : S'.clock = S.clock) (hL : L'.map (·.1) = S'.L) (hok : QOk g S') (hsub : ∀ z ∈ L', z ∈ L) :
    RefAt (W.setCell ⟨x, 2, none⟩ v') x g S' L' v' B ∧ RStep x w L lv (W.setCell ⟨x, 2, none⟩ v') L' v' := by
  have hBw : B ≤ w.heap.size := Nat.le_of_lt (Nat.lt_of_le_of_lt h.lowX h.box.lt)
  have hxl := h.box.lt
  have hw := h.below hb
  have ks : ∀ j, j ≠ x → (W.setCell ⟨x, 2, none⟩ v').heap[j]? = W.heap[j]? := fun j hj => Below.heap_setCell _ _ _ j (by simpa using hj)
  have hvl := fun k hk => (hrow.lt k hk).1
  have hgx : ∀ z ∈ L, z.2.ownBlock ≠ some x := fun z hz hk => by
    obtain ⟨-, ⟨h3, -⟩ | ⟨g', cap', cur, h3, -, h4, -⟩⟩ := hw.gs z hz
    · rw [h3] at hk; cases hk
    · rw [h3] at hk
      have hgk : g' = x := Option.some.inj hk
      have h1 := hw.box
      unfold VarAt at h1
      rw [hgk, h1] at h4
      injection h4 with h4; injection h4 with h5 h6; cases h6
  refine ⟨⟨?_, ?_, hL, hok, fun z hz => ?_, h.lowX, h.g0⟩, ⟨hb.os, hb.tape, hb.output, by simpa using hb.size, fun k hk hn => ?_, fun k hk => ?_, fun k hk => ?_⟩⟩
  · have := hw.box.set 2 v'
    rw [hc]; exact this
  · refine own_lower (ownsRow_keep hrow fun k hk => ks k ?_) hBw
    have := hvl k hk; omega
  · exact ownsRow_keep (hw.gs z (hsub z hz)) fun k hk => ks k fun e => hgx z (hsub z hz) (by rw [hk, e])
  · rw [ks k (fun e => hn (.inl e))]; exact hb.block k hk
  · rcases hk with h1 | h1
    · exact .inl (.inl h1)
    · exact .inr (hvl k h1)
  · rcases hk with (h1 | h1) | ⟨z, hz, hk⟩
    · exact .inl (.inl (.inl h1))
    · exact .inr (hvl k h1)
    · exact .inl (.inr ⟨z, hsub z hz, hk⟩)
theorem QOk.erase (h : QOk g S) (id : IdD) : QOk g ⟨S.clock, S.L.filter fun o => decide (o.id ≠ id)⟩ :=
  ⟨h.apart.sublist List.filter_sublist, fun o ho => h.ones o (List.mem_filter.1 ho).1, h.clock0, h.clock1⟩
theorem RefAt.erased (h : RefAt w x g S L lv B) {k : Nat} {y : RefO} (hy : L[k]? = some y) : (L.eraseIdx k).map (·.1) = S.L.filter fun o => decide (o.id ≠ y.1.id) := by
  have h1 : (L.map (·.1))[k]? = some y.1 := by rw [List.getElem?_map, hy]; rfl
  rw [h.lst] at h1
  rw [← erase_filter h.ok.apart h1, ← h.lst, List.eraseIdx_eq_take_drop_succ, List.eraseIdx_eq_take_drop_succ, List.map_append, List.map_take, List.map_drop]
set_option maxHeartbeats 8000000 in
set_option maxRecDepth 1000000 in
theorem c24 (h : RefAt w x g S L lv B) (hl : L.length ≤ 1000) (id : IdD) : Calls Try.prog 24 #[.pointer (some ⟨x, 0, none⟩), .agg #[.int .i64 id.s, .int .i64 id.q]] w (REnd x g B w L lv (.bool (doneS g S id).1) (doneS g S id).2) := by
  refine gen (S := REnd x g B w L lv (.bool (doneS g S id).1) (doneS g S id).2) fun R hR => ?_
  have hb0 : Below w.heap.size w (w.alloc (.cells #[.int .i64 id.s, .int .i64 id.q] 31)) := (Below.refl _ _).alloc (Nat.le_refl _) _
  have hI := VarAt.new w 31 [.int .i64 id.s, .int .i64 id.q]
  have stay : doneS g S id = (false, S) → ∀ W, Below w.heap.size w W → R (.returned (.bool false)) W := fun hd W hb => hR _ _ (by rw [hd]; exact ⟨rfl, L, lv, h.below hb, RStep.of_below hb⟩)
  have STAY := Lib.hid stay
  have h25 := c25 (h.below hb0) hl
  have h42 := fun W (hb : Below w.heap.size w W) => c42 (h.below hb) hl id
  have H42 := Lib.hid h42
  have H := Lib.hid h
  have HB0 := Lib.hid hb0
  have HI := Lib.hid hI
  have HR := Lib.hid hR
  obtain ⟨la, lc, rfl⟩ := owns_slice' h.row
  obtain ⟨i55, hi55⟩ := some55
  have I55 := Lib.hid hi55
  clear h hb0 hI hR stay h42 hi55
  cases hn : nextS g S with
  | none =>
    have hd : doneS g S id = (false, S) := by unfold doneS; rw [hn]
    rw [hn] at h25
    unfold nextV at h25
    have H25 := Lib.hid h25
    have END := Lib.hid (STAY.out hd)
    clear hd hn h25
    go_enter Try.func24, Try.ntmps24
    go_wp2_with (first | (go_at_call 25; refine H25.out.mono ?_; rintro e w2 ⟨rfl, hb2⟩; have HB2 := Lib.hid (HB0.out.trans (hb2.mono HB0.out.size)); clear hb2) | fail)
    go_tidy
    exact END.out _ ((HB2.out.alloc HB2.out.size _))
  | some r =>
    obtain ⟨nid, ns⟩ := r
    rw [hn] at h25
    unfold nextV at h25
    have H25 := Lib.hid h25
    have hne := neq31 nid id
    clear h25
    by_cases hid : nid = id
    · subst hid
      have hd : doneS g S nid = (true, ⟨S.clock, S.L.filter fun o => decide (o.id ≠ nid)⟩) := by unfold doneS; rw [hn]; simp
      have hdt : decide (nid = nid) = true := by simp
      rw [hdt] at hne
      have END := Lib.hid (fun W (h1 : ∃ (L' : List RefO) (lv' : Value), RefAt W x g ⟨S.clock, S.L.filter fun o => decide (o.id ≠ nid)⟩ L' lv' B ∧ RStep x w L (.slice la L.length lc) W L' lv') => HR.out (.returned (.bool true)) W (by rw [hd]; exact ⟨rfl, h1⟩))
      have hmem : ∃ o ∈ S.L, o.id = nid := by
        unfold nextS at hn
        cases ho : ord g S.L with
        | nil => rw [ho] at hn; cases hn
        | cons o l =>
          rw [ho] at hn
          simp only at hn
          split at hn
          · refine ⟨o, ord_mem.1 (ho ▸ List.mem_cons_self ..), ?_⟩
            have := congrArg (fun z => (Option.map Prod.fst z)) hn
            simpa using this
          · cases hn
      have HMEM := Lib.hid hmem
      clear hd hn hmem hdt
      go_enter Try.func24, Try.ntmps24
      go_upto_region 2 with (first | (go_at_call 25; refine H25.out.mono ?_; rintro e w2 ⟨rfl, hb2⟩; have HB2 := Lib.hid (HB0.out.trans (hb2.mono HB0.out.size)); have HI2 := Lib.hid (HI.out.keep hb2 HI.out.lt); clear hb2) | fail)
      obtain ⟨W3, hW3⟩ : ∃ W3 : World, W3 = w2.alloc (.cells #[.int .i64 nid.s, .int .i64 nid.q] 31) := ⟨_, rfl⟩
      rw [← hW3]
      have hb3 : Below w.heap.size w W3 := by rw [hW3]; exact HB2.out.alloc HB2.out.size _
      have hI3 : VarAt W3 w.heap.size 31 [.int .i64 nid.s, .int .i64 nid.q] := by rw [hW3]; exact HI2.out.alloc _
      have hN3 : VarAt W3 w2.heap.size 31 [.int .i64 nid.s, .int .i64 nid.q] := by rw [hW3]; exact VarAt.new w2 31 [.int .i64 nid.s, .int .i64 nid.q]
      have i0 := hI3.cell (j := 0) rfl
      have i1 := hI3.cell (j := 1) rfl
      have il := hI3.lt
      have n0 := hN3.cell (j := 0) rfl
      have n1 := hN3.cell (j := 1) rfl
      have nl := hN3.lt
      have HB3 := Lib.hid hb3
      clear hb3 hI3 hN3 hW3
      go_upto_region 5 with (first | (go_at_call 42; refine (H42.out _ HB3.out).mono ?_; rintro e w4 ⟨n, rfl, hb4, hn⟩; have HN := Lib.hid hn; have HB4 := Lib.hid (HB3.out.trans (hb4.mono HB3.out.size)); clear hb4 hn) | fail)
      obtain ⟨k, y, rfl, hy, hye⟩ : ∃ (k : Nat) (y : RefO), n = (k : Int) ∧ L[k]? = some y ∧ y.1.id = nid := by
        rcases HN.out with ⟨-, hno⟩ | h
        · exfalso
          obtain ⟨o, ho, he⟩ := HMEM.out
          rw [← H.out.lst] at ho
          obtain ⟨z, hz, rfl⟩ := List.mem_map.1 ho
          exact hno z hz he
        · exact h
      have hkl : k < L.length := (List.getElem?_eq_some_iff.1 hy).1
      have hh := H.out.below HB4.out
      obtain ⟨lk, lcap, hle, hlkl, hlcap⟩ := row_addr hh.row (by omega)
      cases hle
      have x2 := hh.box.cell (j := 2) rfl
      have xl := hh.box.lt
      have hkI : (k : Int) < (L.length : Int) := by omega
      have hb1 : (k : Int) + 1 ≤ (L.length : Int) := by omega
      have hb2 : (k : Int) ≤ (lc : Int) := by omega
      have hk2 : k ≤ lc := by omega
      have hk3 : k + 1 ≤ L.length := by omega
      have hone : ∀ W, Below w.heap.size w W → ∀ z ∈ L, GOk z W := fun W hb z hz => (H.out.below hb).gok hz
      have HONE := Lib.hid hone
      have HROW := Lib.hid hh.row
      have HY := Lib.hid (And.intro hy hye)
      clear hy hye hh hone HN i0 i1 il n0 n1 nl
      by_cases hcm : lc = k + 1
      · subst hcm
        go_wp2_with (first
          | (at_builtin
             (refine wpList_append_fresh (w4) rfl (.tmp 26) (.tmp 32) 47 rfl w.heap.size 55 (.agg #[.int .i64 0, .int .i64 0, .slice none 0 0, .int .u64 0, .int .u64 0, .int .u64 0, .int .u64 0]) 7 72 und47 inf55 rfl (by decide) (.slice none 0 0) (0) ([]) (by rfl) (World.ownsRow_nil _ _ _ _) (⟨lk, 0, none⟩) (k) (k + 1) ((L.take k).flatMap encR) (by rfl) (by rw [flatR_len, List.length_take, Nat.min_eq_left (by omega)]) ?hnew (encR_one (fun p hp => HONE.out w4 HB4.out p (List.mem_of_mem_take hp))) (by unfold maxLen; omega) (by omega) (HB4.out.size) ?_)
             case hnew => exact row_take HROW.out k
             intro v5 w5 hT5 hg5 ho5
             rw [Nat.zero_add, List.nil_append] at hT5
             obtain ⟨a5, c5, rfl⟩ := owns_slice' hT5
             have hb5 : Below w.heap.size w w5 := HB4.out.grown hg5 HB4.out.size (fun k hk => by cases hk)
             have hh := H.out.below hb5
             have x25 : w5.cell? ⟨x, 2, none⟩ = some (.slice (some ⟨lk, 0, none⟩) L.length (k + 1)) := hh.box.cell (j := 2) rfl
             have xl5 := hh.box.lt
             have hc5 := owns_cap hT5
             have HT5 := Lib.hid hT5
             have HB5 := Lib.hid hb5
             clear hT5 hg5 ho5 hh hb5 x2 xl)
          | (at_builtin; refine wpList_append_none w5 rfl (.tmp 34) (.tmp 41) 47 rfl 55 i55 und47 I55.out a5 k c5 (by rfl) hc5 (some ⟨lk, 0, none⟩) 0 (by rfl) ?_; have xf5 := (H.out.below HB5.out).box.free 2)
          | fail)
        go_tidy
        refine END.out _ ?_
        have hke : k + 1 = L.length := by omega
        have hp := H.out.put (L' := L.eraseIdx k) (S' := ⟨S.clock, S.L.filter fun o => decide (o.id ≠ nid)⟩) HB5.out (by
          have hd : L.drop (k + 1) = [] := List.drop_eq_nil_of_le (by omega)
          have h1 : (L.eraseIdx k).length = k := by rw [List.length_eraseIdx, if_pos (by omega)]; omega
          rw [h1, List.eraseIdx_eq_take_drop_succ, hd, List.append_nil]
          exact HT5.out) rfl (by rw [H.out.erased HY.out.1, HY.out.2]) (H.out.ok.erase nid) (fun z hz => (List.eraseIdx_sublist ..).subset hz)
        exact ⟨_, _, hp.1, hp.2⟩
      · have hcm2 : ¬ (k + 1 = lc) := fun e => hcm e.symm
        go_wp2_with (first
          | (at_builtin
             (refine wpList_append_fresh (w4) rfl (.tmp 26) (.tmp 32) 47 rfl w.heap.size 55 (.agg #[.int .i64 0, .int .i64 0, .slice none 0 0, .int .u64 0, .int .u64 0, .int .u64 0, .int .u64 0]) 7 72 und47 inf55 rfl (by decide) (.slice none 0 0) (0) ([]) (by rfl) (World.ownsRow_nil _ _ _ _) (⟨lk, 0, none⟩) (k) (lc) ((L.take k).flatMap encR) (by rfl) (by rw [flatR_len, List.length_take, Nat.min_eq_left (by omega)]) ?hnew (encR_one (fun p hp => HONE.out w4 HB4.out p (List.mem_of_mem_take hp))) (by unfold maxLen; omega) (by omega) (HB4.out.size) ?_)
             case hnew => exact row_take HROW.out k
             intro v5 w5 hT5 hg5 ho5
             rw [Nat.zero_add, List.nil_append] at hT5
             obtain ⟨a5, c5, rfl⟩ := owns_slice' hT5
             have hb5 : Below w.heap.size w w5 := HB4.out.grown hg5 HB4.out.size (fun k hk => by cases hk)
             have hh := H.out.below hb5
             have x25 : w5.cell? ⟨x, 2, none⟩ = some (.slice (some ⟨lk, 0, none⟩) L.length (lc)) := hh.box.cell (j := 2) rfl
             have xl5 := hh.box.lt
             have hc5 := owns_cap hT5
             have HT5 := Lib.hid hT5
             have HB5 := Lib.hid hb5
             clear hT5 hg5 ho5 hh hb5 x2 xl)
          | (at_builtin
             (refine wpList_append_fresh (w5) rfl (.tmp 34) (.tmp 41) 47 rfl w.heap.size 55 (.agg #[.int .i64 0, .int .i64 0, .slice none 0 0, .int .u64 0, .int .u64 0, .int .u64 0, .int .u64 0]) 7 72 und47 inf55 rfl (by decide) (.slice a5 k c5) (k) ((L.take k).flatMap encR) (by rfl) (HT5.out) (⟨lk, (k + 1) * 7, none⟩) (L.length - (k + 1)) (lc - (k + 1)) ((L.drop (k + 1)).flatMap encR) (by rfl) (by rw [flatR_len, List.length_drop]) ?hnew (encR_one (fun p hp => HONE.out w5 HB5.out p (List.mem_of_mem_drop hp))) (by unfold maxLen; omega) (by omega) (HB5.out.size) ?_)
             case hnew => exact row_drop (H.out.below HB5.out).row (k + 1) (by omega)
             intro v6 w6 hT6 hg6 ho6
             obtain ⟨a6, c6, rfl⟩ := owns_slice' hT6
             have hb6 : Below w.heap.size w w6 := HB5.out.grown hg6 HB5.out.size (fun k hk => (HT5.out.lt k hk).1)
             have hh := H.out.below hb6
             have x26 : w6.cell? ⟨x, 2, none⟩ = some (.slice (some ⟨lk, 0, none⟩) L.length lc) := hh.box.cell (j := 2) rfl
             have xl6 := hh.box.lt
             have xf6 := hh.box.free 2
             have HT6 := Lib.hid hT6
             have HB6 := Lib.hid hb6
             clear hT6 hg6 ho6 hh hb6 x25 xl5)
          | fail)
        go_tidy
        refine END.out _ ?_
        have hp := H.out.put (L' := L.eraseIdx k) (S' := ⟨S.clock, S.L.filter fun o => decide (o.id ≠ nid)⟩) HB6.out (by
          have h1 : (L.eraseIdx k).length = k + (L.length - (k + 1)) := by rw [List.length_eraseIdx, if_pos (by omega)]; omega
          rw [h1, List.eraseIdx_eq_take_drop_succ, List.flatMap_append]
          exact HT6.out) rfl (by rw [H.out.erased HY.out.1, HY.out.2]) (H.out.ok.erase nid) (fun z hz => (List.eraseIdx_sublist ..).subset hz)
        exact ⟨_, _, hp.1, hp.2⟩
    · have hd : doneS g S id = (false, S) := by unfold doneS; rw [hn]; simp only; rw [if_neg hid]
      have hdt : decide (nid = id) = false := decide_eq_false hid
      rw [hdt] at hne
      have END := Lib.hid (STAY.out hd)
      clear hd hn hid hdt
      go_enter Try.func24, Try.ntmps24
      go_upto_region 2 with (first | (go_at_call 25; refine H25.out.mono ?_; rintro e w2 ⟨rfl, hb2⟩; have HB2 := Lib.hid (HB0.out.trans (hb2.mono HB0.out.size)); have HI2 := Lib.hid (HI.out.keep hb2 HI.out.lt); clear hb2) | fail)
      obtain ⟨W3, hW3⟩ : ∃ W3 : World, W3 = w2.alloc (.cells #[.int .i64 nid.s, .int .i64 nid.q] 31) := ⟨_, rfl⟩
      rw [← hW3]
      have hb3 : Below w.heap.size w W3 := by rw [hW3]; exact HB2.out.alloc HB2.out.size _
      have hI3 : VarAt W3 w.heap.size 31 [.int .i64 id.s, .int .i64 id.q] := by rw [hW3]; exact HI2.out.alloc _
      have hN3 : VarAt W3 w2.heap.size 31 [.int .i64 nid.s, .int .i64 nid.q] := by rw [hW3]; exact VarAt.new w2 31 [.int .i64 nid.s, .int .i64 nid.q]
      have i0 := hI3.cell (j := 0) rfl
      have i1 := hI3.cell (j := 1) rfl
      have il := hI3.lt
      have n0 := hN3.cell (j := 0) rfl
      have n1 := hN3.cell (j := 1) rfl
      have nl := hN3.lt
      have HB3 := Lib.hid hb3
      clear hb3 hI3 hN3 hW3
      go_wp2
      go_tidy
      exact END.out _ HB3.out
end
end Go.Proofs.Ytamjdghjaimihaa
