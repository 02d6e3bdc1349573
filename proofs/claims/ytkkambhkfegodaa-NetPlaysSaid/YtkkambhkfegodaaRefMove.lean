/- The reference: Move. Conditions: each law's own. -/
import Derived.Test.YtkkambhkfegodaaBags
import Derived.Test.YtkkambhkfegodaaHeld
namespace Go.Proofs.Ytkkambhkfegodaa
open Go.ChangeShapes Go.WideShapes Go.ChangeAt Go.RowKit

section
variable {w0 w : World} {y : Nat} {lv : Value} {L : List Pkt}
def tk (d j : Nat) : Nat := if d < j then j + 1 else j
theorem insert_before {l : List Pkt} {d j : Nat} {p q : Pkt} (h : l[j]? = some q) (hj : j < d) (hd : d ≤ l.length) : (l.insertIdx d p)[tk d j]? = some q := by
  unfold tk
  rw [if_neg (by omega), List.getElem?_insertIdx, if_pos hj]; exact h
theorem insert_after {l : List Pkt} {d j : Nat} {p q : Pkt} (h : l[j]? = some q) (hj : d ≤ j) (hd : d ≤ l.length) : (l.insertIdx d p)[j + 1]? = some q := by
  rw [List.getElem?_insertIdx, if_neg (by omega), if_neg (by omega)]; exact h
theorem insert_at {l : List Pkt} {d : Nat} {p : Pkt} (hd : d ≤ l.length) : (l.insertIdx d p)[d]? = some p := by
  rw [List.getElem?_insertIdx, if_neg (by omega), if_pos rfl, if_pos hd]
def RMoveS (y : Nat) (lv : Value) (g o : Nat) (u : Value) (w' : World) : Prop := w'.cell? ⟨y, 0, none⟩ = some lv ∧ w'.cell? ⟨g, o, none⟩ = some u
def MoveRel (w0 w3 : World) (y : Nat) (lv3 : Value) (L2 M : List Pkt) (d nr : Nat) (i : Value) (wr : World) : Prop :=
  ∃ j : Nat, j ≤ nr + 1 ∧ i = .int .i64 j ∧ ∃ lvj, RefAt w0 wr y lvj (L2 ++ M.take (tk d j)) ∧ RefStep w3 y lv3 wr lvj
def RMovePost (w0 : World) (y : Nat) (lv : Value) (L : List Pkt) (f t a : Int) (d : Nat) (w : World) (e : Ending) (w' : World) : Prop :=
  ∃ (i : Nat) (p : Pkt) (lv' : Value), L[i]? = some p ∧ p.1 = (f, t) ∧ (cnt (f, t) (L.take i) : Int) = a ∧ e = .returned (.bool true) ∧
    RefAt w0 w' y lv' (kept f t true (L.eraseIdx i) ++ (onLink (f, t) (L.eraseIdx i)).insertIdx d p) ∧ RefStep w y lv w' lv'
/-- What an append of one packet and the store behind it leave. -/
theorem ref_push {W w3 : World} {lvX v3 : Value} {LX : List Pkt} {p : Pkt} {n : Nat} (H : RefAt w0 W y lvX LX) (hn : n = LX.length)
    (hT : w3.ownsRow w0.heap.size 73 3 v3 (n + 1) (LX.flatMap encK ++ [.int .i64 p.1.1, .int .i64 p.1.2, p.2.1])) (hg : (W.alloc (.cells #[.int .i64 p.1.1, .int .i64 p.1.2, p.2.1] 73)).grownBy w3 lvX.ownBlock)
    (hv : v3.ownBlock = lvX.ownBlock ∨ ∃ g, v3.ownBlock = some g ∧ (W.alloc (.cells #[.int .i64 p.1.1, .int .i64 p.1.2, p.2.1] 73)).heap.size ≤ g) (hp : RowOf encB 1 w0 p.2.1 p.2.2 ∧ p.2.2.length ≤ 1000) :
    VarAt w3 y 46 [lvX] ∧ (RefAt w0 (w3.setCell ⟨y, 0, none⟩ v3) y v3 (LX ++ [p]) ∧ RefStep W y lvX (w3.setCell ⟨y, 0, none⟩ v3) v3) ∧ Frame (fun j => ¬ RefOwn y lvX j) W w3 := by
  subst hn
  have hbW : Below W.heap.size W (W.alloc (.cells #[.int .i64 p.1.1, .int .i64 p.1.2, p.2.1] 73)) := (Below.refl _ _).alloc (Nat.le_refl _) _
  have hN := H.below hbW
  have hB3 : VarAt w3 y 46 [lvX] := hN.box.grown hg (fun e => hN.ne e.symm)
  have hfr : Frame (fun j => ¬ RefOwn y lvX j) W w3 := Frame.trans (.of_below hbW) ⟨hg.os, hg.tape, hg.output, hg.size, fun j hj hA => hg.block j hj (fun e => hA (.inr e.symm))⟩
  have hold : Below w0.heap.size w0 w3 := hN.old.grown hg (by have := H.old.size; simp; omega) (fun k hk => ((H.row.lt k hk).1))
  refine ⟨hB3, H.put (L' := LX ++ [p]) hB3 (by
      simp only [List.length_append, List.length_singleton, List.flatMap_append, List.flatMap_cons, List.flatMap_nil, List.append_nil]
      exact hT) (fun q hq => by
      rcases List.mem_append.1 hq with hq | hq
      · exact H.pk q hq
      · simp at hq; subst hq; exact hp) hold hfr (fun g hg2 => by
      rcases hv with h3 | ⟨g', h3, h4⟩
      · exact .inl (by rw [← h3]; exact hg2)
      · rw [h3] at hg2; injection hg2 with hg2
        simp at h4
        exact .inr (by omega)), hfr⟩
theorem c35none (h : RefAt w0 w y lv L) (hl : L.length ≤ 10000) (f t a d : Int) (ha : (Lit.int .i64 a).wf = true) (hd : (Lit.int .i64 d).wf = true) (hn : ¬ ((0 ≤ a ∧ a < (cnt (f, t) L : Int)) ∧ (0 ≤ d ∧ d < (cnt (f, t) L : Int)))) :
    Calls Try.prog 35 #[.pointer (some ⟨y, 0, none⟩), .int .i64 f, .int .i64 t, .int .i64 a, .int .i64 d] w fun e w' => e = .returned (.bool false) ∧ w' = w := by
  refine gen fun R hR => ?_
  by_cases h0 : 0 ≤ a ∧ a < (cnt (f, t) L : Int)
  · have h43 := c43at h (by omega) f t a ha h0
    have h43b := c43none h (by omega) f t d hd (fun h1 => hn ⟨h0, h1⟩)
    clear h ha hd hn h0
    go_enter Try.func35, Try.ntmps35
    go_wp2_with fail
    refine h43.mono ?_
    rintro e w' ⟨i, p, rfl, hi, hk, hc, rfl⟩
    have hi0 : ¬ ((i : Int) < 0) := by omega
    clear hi hk hc h43
    go_wp2_with (first | (go_at_call 43; refine h43b.mono ?_; rintro e w2 ⟨rfl, rfl⟩) | fail)
  · have h43 := c43none h (by omega) f t a ha h0
    clear h ha hd hn h0
    go_enter Try.func35, Try.ntmps35
    go_wp2_with (first | (go_at_call 43; refine h43.mono ?_; rintro e w2 ⟨rfl, rfl⟩) | fail)
set_option maxHeartbeats 8000000 in
set_option maxRecDepth 100000 in
theorem c35 (h : RefAt w0 w y lv L) (hl : L.length ≤ 1000) (f t a : Int) (d : Nat) (ha : (Lit.int .i64 a).wf = true) (hn : 0 ≤ a ∧ a < (cnt (f, t) L : Int)) (hd : d < cnt (f, t) L) :
    Calls Try.prog 35 #[.pointer (some ⟨y, 0, none⟩), .int .i64 f, .int .i64 t, .int .i64 a, .int .i64 d] w (RMovePost w0 y lv L f t a d w) := by
  refine gen (S := RMovePost w0 y lv L f t a d w) fun R hR => ?_
  have hdw : (Lit.int .i64 (d : Int)).wf = true := by have := cnt_le (f, t) L; simp [Lit.wf, IntKind.min, IntKind.max, IntKind.signed, IntKind.bits]; omega
  have h43 := c43at h (by omega) f t a ha hn
  have h43b := c43at h (by omega) f t d hdw ⟨by omega, by omega⟩
  have h32 := c32 h (by omega) f t a ha hn
  have H := Lib.hid h
  clear h ha hn hdw
  go_enter Try.func35, Try.ntmps35
  go_wp2_with fail
  refine h43.mono ?_
  rintro e w' ⟨i0, p0, rfl, hi, hk, hc, rfl⟩
  have hi0 : ¬ ((i0 : Int) < 0) := by omega
  clear hi hk hc h43
  go_wp2_with fail
  refine h43b.mono ?_
  rintro e w' ⟨i1, p1, rfl, hi, hk, hc, rfl⟩
  have hi1 : ¬ ((i1 : Int) < 0) := by omega
  clear hi hk hc h43b
  go_wp2_with fail
  refine h32.mono ?_
  rintro e w1 ⟨i, ⟨pk, pv, pb⟩, lv1, hi, hk, hc, rfl, h1, hs1⟩
  simp only at hk
  subst hk
  have hpk := H.out.pk _ (List.mem_of_getElem? hi)
  simp only at hpk
  obtain ⟨pva, pvc, rfl, -⟩ := id hpk.1
  have hil : i < L.length := (List.getElem?_eq_some_iff.1 hi).1
  have hl1 : (L.eraseIdx i).length ≤ 1000 := by rw [List.length_eraseIdx, if_pos hil]; omega
  have hcn : cnt (f, t) (L.eraseIdx i) + 1 = cnt (f, t) L := by
    have e1 : cnt (f, t) (L.eraseIdx i) = cnt (f, t) (L.take i) + cnt (f, t) (L.drop (i + 1)) := by unfold cnt onLink; rw [List.eraseIdx_eq_take_drop_succ, List.filter_append, List.length_append]
    have e2 : cnt (f, t) L = cnt (f, t) (L.take (i + 1)) + cnt (f, t) (L.drop (i + 1)) := by unfold cnt onLink; rw [← List.length_append, ← List.filter_append, List.take_append_drop]
    rw [← take_push hi, cnt_push, if_pos rfl] at e2
    omega
  have h21 := c21 h1 (by omega) f t
  have H1 := Lib.hid h1
  have HS1 := Lib.hid hs1
  have HI := Lib.hid hi
  have HC := Lib.hid hc
  have HPK := Lib.hid hpk
  have hyl : y < w1.heap.size := h1.box.lt
  clear hi hc h1 hs1 hpk h32
  go_wp2_with fail
  refine h21.mono ?_
  rintro e w2 ⟨rv, rfl, hT, hb2⟩
  obtain ⟨ra, rc, rfl, -⟩ := id hT
  have h44 := c44 (H1.out.below hb2) (by omega) f t true
  have HT := Lib.hid hT
  have HB2 := Lib.hid hb2
  clear hT hb2 h21
  go_wp2_with fail
  refine h44.mono ?_
  rintro e w3 ⟨rfl, lv3, h3, hs3⟩
  have H3 := Lib.hid h3
  have HS3 := Lib.hid hs3
  clear h3 hs3 h44
  generalize hnr : cnt (f, t) (L.eraseIdx i) = nr at *
  have hnl : (onLink (f, t) (L.eraseIdx i)).length = nr := hnr
  have hdn : d ≤ nr := by omega
  have hnr5 : nr ≤ 1000 := by have := cnt_le (f, t) (L.eraseIdx i); omega
  have hL2 : (kept f t true (L.eraseIdx i)).length ≤ 1000 := Nat.le_trans (kept_le _ _ _ _) hl1
  clear hnr
  obtain ⟨M, hM⟩ : ∃ M, M = (onLink (f, t) (L.eraseIdx i)).insertIdx d ((f, t), .slice pva pb.length pvc, pb) := ⟨_, rfl⟩
  have hMl : M.length = nr + 1 := by rw [hM, List.length_insertIdx_of_le_length (by omega)]; omega
  have HM := Lib.hid hM
  have HNL := Lib.hid hnl
  clear hM hnl
  go_wp2_with fail
  go_loopw [14] (fun iv wr => MoveRel w0 w3 y lv3 (kept f t true (L.eraseIdx i)) M d nr iv wr) (fun iv _ => nr + 1 - (intOf iv).toNat)
  case atStart =>
    refine ⟨0, by omega, rfl, lv3, ?_, RefStep.refl _ _ _⟩
    have : tk d 0 = 0 := by unfold tk; simp
    rw [this, List.take_zero, List.append_nil]; exact H3.out
  case round =>
    obtain ⟨j, hj, rfl, lvj, hNj, hSj⟩ := hrel
    have HNj := Lib.hid hNj
    have HSj := Lib.hid hSj
    clear hNj hSj
    obtain ⟨xa0, xc0, rfl, -⟩ := id HNj.out.rowOf
    generalize hLX0 : kept f t true (L.eraseIdx i) ++ M.take (tk d j) = LX0 at *
    have HLX0 := Lib.hid hLX0
    have hLX0l : LX0.length ≤ 3000 := by rw [← hLX0, List.length_append, List.length_take]; omega
    clear hLX0
    have hcy := HNj.out.box.cell (j := 0) (u := .slice xa0 LX0.length xc0) rfl
    have hyr := HNj.out.box.lt
    rcases Nat.lt_or_ge nr j with hend | hle
    · obtain rfl : j = nr + 1 := by omega
      have hjn : ¬ (((nr + 1 : Nat) : Int) ≤ (nr : Int)) := by omega
      have HXX := Lib.hid hLX0l
      go_wp2
      go_tidy
      have hMt : M.take (tk d (nr + 1)) = M := List.take_of_length_le (by unfold tk; rw [if_pos (by omega)]; omega)
      have hLX := HLX0.out
      rw [hMt, HM.out] at hLX
      refine ⟨i, _, _, HI.out, rfl, HC.out, rfl, ?_, ((HS1.out.trans (RefStep.of_below HB2.out y lv1) H.out.box.lt).trans HS3.out H.out.box.lt).trans HSj.out H.out.box.lt⟩
      rw [hLX]; exact HNj.out
    · have hjn : (j : Int) ≤ (nr : Int) := by omega
      rcases Nat.lt_or_ge j nr with hjl | hjg
      · have hjlI : (j : Int) < (nr : Int) := by omega
        have hjx : j < (onLink (f, t) (L.eraseIdx i)).length := by rw [HNL.out]; exact hjl
        have hrest : ∃ rg ro qa qb qc, ra = some ⟨rg, ro, none⟩ ∧ (onLink (f, t) (L.eraseIdx i))[j]? = some ((f, t), .slice qa qb.length qc, qb) ∧ rg < wr.heap.size ∧ wr.cell? ⟨rg, ro + j, none⟩ = some (.slice qa qb.length qc) ∧ (RowOf encB 1 w0 (.slice qa qb.length qc) qb ∧ qb.length ≤ 1000) ∧ ¬ RefOwn y (.slice xa0 LX0.length xc0) rg := by
          have hq : (onLink (f, t) (L.eraseIdx i))[j]? = some (onLink (f, t) (L.eraseIdx i))[j] := List.getElem?_eq_getElem _
          obtain ⟨⟨qk, qv, qb⟩, hqe⟩ : ∃ q : Pkt, q = (onLink (f, t) (L.eraseIdx i))[j] := ⟨_, rfl⟩
          rw [← hqe] at hq
          obtain ⟨hqm, hqk⟩ := mem_onLink (List.mem_of_getElem? hq)
          simp only at hqk
          subst hqk
          have hqp := H1.out.pk _ hqm
          simp only at hqp
          obtain ⟨qa, qc, rfl, -⟩ := id hqp.1
          have hxv : (vals (onLink (f, t) (L.eraseIdx i)))[j]? = some (.slice qa qb.length qc) := by unfold vals; rw [List.getElem?_map, hq]; rfl
          obtain ⟨rg, ro, rfl, hrb, hrl, hrc⟩ := HT.out.cell hxv
          have hn1 : ¬ RefOwn y lv1 rg := fun hx => by have := (H1.out.lt rg hx).2; omega
          have hrl3 : rg < w3.heap.size := Nat.lt_of_lt_of_le hrl HS3.out.frame.size
          have hn3 : ¬ RefOwn y lv3 rg := by
            rintro (hx | hx)
            · exact hn1 (.inl hx)
            · rcases HS3.out.own rg hx with h5 | h5
              · exact hn1 (.inr h5)
              · omega
          have hnj : ¬ RefOwn y (.slice xa0 LX0.length xc0) rg := by
            rintro (hx | hx)
            · exact hn3 (.inl hx)
            · rcases HSj.out.own rg hx with h5 | h5
              · exact hn3 (.inr h5)
              · omega
          refine ⟨rg, ro, qa, qb, qc, rfl, hq, Nat.lt_of_lt_of_le hrl3 HSj.out.frame.size, ?_, hqp, hnj⟩
          rw [World.cell?_of_block (a := ⟨rg, ro + j, none⟩) (HSj.out.frame.block rg hrl3 hn3), World.cell?_of_block (a := ⟨rg, ro + j, none⟩) (HS3.out.frame.block rg hrl hn1)]
          exact hrc
        obtain ⟨rg, ro, qa, qb, qc, rfl, hq, hrl, hrc, hqp, hno⟩ := hrest
        have HQ := Lib.hid hq
        have HQP := Lib.hid hqp
        have HNO := Lib.hid hno
        clear hq hqp hno hjx
        by_cases hdj : j = d
        · subst hdj
          go_wp2_with (first
            | (at_builtin
               refine wpList_append_fresh (wr.alloc (.cells #[.int .i64 f, .int .i64 t, .slice pva pb.length pvc] 73)) rfl (.tmp 58) (.tmp 63) 44 rfl w0.heap.size 73 (.agg #[.int .i64 0, .int .i64 0, .slice none 0 0]) 3 40 underlying44 info73 rfl (by decide) (.slice xa0 LX0.length xc0) LX0.length (LX0.flatMap encK) (by rfl) (HNj.out.row.alloc _) ⟨wr.heap.size, 0, none⟩ 1 1 [.int .i64 f, .int .i64 t, .slice pva pb.length pvc] (by rfl) rfl (cell_new wr [.int .i64 f, .int .i64 t, .slice pva pb.length pvc] 73) (by simp [Value.oneCell']) (by unfold maxLen; omega) (by omega) (by have := HNj.out.old.size; simp; omega) ?_
               intro v4 w4 hT4 hg4 ho4
               obtain ⟨x4, c4, rfl⟩ := owns_slice hT4
               obtain ⟨hB4, hP4, hF4⟩ := ref_push (p := ((f, t), .slice pva pb.length pvc, pb)) HNj.out rfl hT4 hg4 ho4 HPK.out
               have hcy4 := hB4.cell (j := 0) (u := .slice xa0 LX0.length xc0) rfl
               have hfy4 := hB4.free 0
               have hy4 := hB4.lt
               have HP4 := Lib.hid hP4
               clear hT4 hg4 ho4 hP4 hB4 hF4)
            | fail)
          have hP4 := HP4.out
          clear HP4 hcy4 hfy4 hy4
          generalize hW : World.setCell _ _ _ = W
          rw [hW] at hP4
          have HX := Lib.hid hP4.1
          have HXS := Lib.hid hP4.2
          have hrcW : W.cell? ⟨rg, ro + j, none⟩ = some (.slice qa qb.length qc) := by
            rw [World.cell?_of_block (a := ⟨rg, ro + j, none⟩) (hP4.2.frame.block rg hrl (fun hx => HNO.out hx))]; exact hrc
          have hrlW : rg < W.heap.size := Nat.lt_of_lt_of_le hrl hP4.2.frame.size
          have hnoW : ¬ RefOwn y (.slice x4 (LX0.length + 1) c4) rg := by
            rintro (hx | hx)
            · exact HNO.out (.inl hx)
            · rcases hP4.2.own rg hx with h5 | h5
              · exact HNO.out (.inr h5)
              · omega
          obtain ⟨LX, hLXe⟩ : ∃ LX, LX = LX0 ++ [((f, t), Value.slice pva pb.length pvc, pb)] := ⟨_, rfl⟩
          have hLXn : LX0.length + 1 = LX.length := by rw [hLXe]; simp
          rw [← hLXe, hLXn] at HX
          rw [hLXn] at HXS hnoW
          rw [hLXn]
          have hLXl : LX.length ≤ 3001 := by omega
          have HLXE := Lib.hid hLXe
          clear hP4 hW hLXe hLXn hLX0l hcy hyr
          clear hrc hrl HNO
          have HNO := Lib.hid hnoW
          clear hnoW
          refine wp_region_noPanic ?_
          refine till_start (RMoveS y (.slice x4 LX.length c4) rg (ro + j) (.slice qa qb.length qc)) 16 (by kernel_rfl) ?_
          have hS := (show RMoveS y (.slice x4 LX.length c4) rg (ro + j) (.slice qa qb.length qc) W.drew from ⟨HX.out.box.cell (j := 0) rfl, hrcW⟩)
          show AnyTill _ _ _ _ _ _ 17 (Array.replicate 17 false) _ _
          refine till_take 0 (v := ?_) rfl (by kernel_rfl) (fun _ _ _ h => h) (Or.inl ⟨by rfl, ?_⟩) hS ?_
          rotate_left
          focus (intro w' hSw; obtain ⟨hs0, hs1⟩ := hSw; go_simp; try (with_reducible rfl))
          try simp only [Act.put, List.setIfInBounds_toArray, List.set_cons_zero, List.set_cons_succ]
          refine till_take 1 (v := ?_) rfl (by kernel_rfl) (fun _ _ _ h => h) (Or.inl ⟨by rfl, ?_⟩) hS ?_
          rotate_left
          focus (intro w' hSw; obtain ⟨hs0, hs1⟩ := hSw; go_simp; try (with_reducible rfl))
          try simp only [Act.put, List.setIfInBounds_toArray, List.set_cons_zero, List.set_cons_succ]
          refine till_take 2 (v := ?_) rfl (by kernel_rfl) (fun _ _ _ h => h) (Or.inl ⟨by rfl, ?_⟩) hS ?_
          rotate_left
          focus (intro w' hSw; obtain ⟨hs0, hs1⟩ := hSw; go_simp; try (with_reducible rfl))
          try simp only [Act.put, List.setIfInBounds_toArray, List.set_cons_zero, List.set_cons_succ]
          refine till_take 3 (v := ?_) rfl (by kernel_rfl) (fun _ _ _ h => h) (Or.inl ⟨by rfl, ?_⟩) hS ?_
          rotate_left
          focus (intro w' hSw; obtain ⟨hs0, hs1⟩ := hSw; go_simp; try (with_reducible rfl))
          try simp only [Act.put, List.setIfInBounds_toArray, List.set_cons_zero, List.set_cons_succ]
          refine till_take 4 (v := ?_) rfl (by kernel_rfl) (fun _ _ _ h => h) (Or.inl ⟨by rfl, ?_⟩) hS ?_
          rotate_left
          focus (intro w' hSw; obtain ⟨hs0, hs1⟩ := hSw; go_simp; try (with_reducible rfl))
          try simp only [Act.put, List.setIfInBounds_toArray, List.set_cons_zero, List.set_cons_succ]
          refine till_take 5 (v := ?_) rfl (by kernel_rfl) (fun _ _ _ h => h) (Or.inl ⟨by rfl, ?_⟩) hS ?_
          rotate_left
          focus (intro w' hSw; obtain ⟨hs0, hs1⟩ := hSw; go_simp; try (with_reducible rfl))
          try simp only [Act.put, List.setIfInBounds_toArray, List.set_cons_zero, List.set_cons_succ]
          refine till_take 6 (v := ?_) rfl (by kernel_rfl) (fun _ _ _ h => h) (Or.inl ⟨by rfl, ?_⟩) hS ?_
          rotate_left
          focus (intro w' hSw; obtain ⟨hs0, hs1⟩ := hSw; go_simp; try (with_reducible rfl))
          try simp only [Act.put, List.setIfInBounds_toArray, List.set_cons_zero, List.set_cons_succ]
          refine till_take 7 (v := ?_) rfl (by kernel_rfl) (fun _ _ _ h => h) (Or.inl ⟨by rfl, ?_⟩) hS ?_
          rotate_left
          focus (intro w' hSw; obtain ⟨hs0, hs1⟩ := hSw; go_simp; try (with_reducible rfl))
          try simp only [Act.put, List.setIfInBounds_toArray, List.set_cons_zero, List.set_cons_succ]
          refine till_take 8 (v := ?_) rfl (by kernel_rfl) (fun _ _ _ h => h) (Or.inl ⟨by rfl, ?_⟩) hS ?_
          rotate_left
          focus (intro w' hSw; obtain ⟨hs0, hs1⟩ := hSw; go_simp; try (with_reducible rfl))
          try simp only [Act.put, List.setIfInBounds_toArray, List.set_cons_zero, List.set_cons_succ]
          refine till_take 9 (v := ?_) rfl (by kernel_rfl) (fun _ _ _ h => h) (Or.inl ⟨by rfl, ?_⟩) hS ?_
          rotate_left
          focus (intro w' hSw; obtain ⟨hs0, hs1⟩ := hSw; go_simp; try (with_reducible rfl))
          try simp only [Act.put, List.setIfInBounds_toArray, List.set_cons_zero, List.set_cons_succ]
          refine till_take 10 (v := ?_) rfl (by kernel_rfl) (fun _ _ _ h => h) (Or.inl ⟨by rfl, ?_⟩) hS ?_
          rotate_left
          focus (intro w' hSw; obtain ⟨hs0, hs1⟩ := hSw; go_simp; try (with_reducible rfl))
          try simp only [Act.put, List.setIfInBounds_toArray, List.set_cons_zero, List.set_cons_succ]
          refine till_take 11 (v := ?_) rfl (by kernel_rfl) (fun _ _ _ h => h) (Or.inl ⟨by rfl, ?_⟩) hS ?_
          rotate_left
          focus (intro w' hSw; obtain ⟨hs0, hs1⟩ := hSw; go_simp; try (with_reducible rfl))
          try simp only [Act.put, List.setIfInBounds_toArray, List.set_cons_zero, List.set_cons_succ]
          refine till_ready [12] (by kernel_rfl) (TillReady.cons 12 rfl (fun K hK => ?_) TillReady.nil)
          go_simp
          have hS := (show RMoveS y (.slice x4 LX.length c4) rg (ro + j) (.slice qa qb.length qc) (W.drew.alloc (.cells #[.int .i64 f, .int .i64 t, .slice qa qb.length qc] 73)) from ⟨Lib.cell?_alloc_some _ (HX.out.box.cell (j := 0) rfl), Lib.cell?_alloc_some _ hrcW⟩)
          refine (Hid.out hK) _ _ (fun _ => hS) ?_
          try simp only [Act.put, List.setIfInBounds_toArray, List.set_cons_zero, List.set_cons_succ]
          refine till_ready [13] (by kernel_rfl) (TillReady.cons 13 rfl (fun K hK => ?_) TillReady.nil)
          refine step_append_fresh (W.drew.alloc (.cells #[.int .i64 f, .int .i64 t, .slice qa qb.length qc] 73)) rfl (.tmp 75) (.tmp 83) 44 rfl w0.heap.size 73 (.agg #[.int .i64 0, .int .i64 0, .slice none 0 0]) 3 40 underlying44 info73 rfl (by decide) (.slice x4 LX.length c4) LX.length (LX.flatMap encK) (by rfl) (HX.out.row.drew.alloc _) ⟨W.heap.size, 0, none⟩ 1 1 [.int .i64 f, .int .i64 t, .slice qa qb.length qc] (by rfl) rfl (cell_new W.drew [.int .i64 f, .int .i64 t, .slice qa qb.length qc] 73) (by simp [Value.oneCell']) (by unfold maxLen; omega) (by omega) (by rw [World.size_alloc]; exact Nat.le_succ_of_le HX.out.old.size) ?_
          intro v5 w5 hT5 hg5 ho5
          obtain ⟨x5, c5, rfl⟩ := owns_slice hT5
          have hXd : RefAt w0 W.drew y (.slice x4 LX.length c4) LX := HX.out.below (Below.refl _ W).drew
          obtain ⟨hB5, hP5, hF5⟩ := ref_push (p := ((f, t), .slice qa qb.length qc, qb)) hXd rfl hT5 hg5 ho5 HQP.out
          have hrc5 : w5.cell? ⟨rg, ro + j, none⟩ = some (.slice qa qb.length qc) := by
            rw [World.cell?_of_block (a := ⟨rg, ro + j, none⟩) (hF5.block rg hrlW (fun hx => HNO.out hx))]; exact hrcW
          have hcy5 := hB5.cell (j := 0) (u := .slice x4 LX.length c4) rfl
          have hfy5 := hB5.free 0
          have hy5 := hB5.lt
          have HP5 := Lib.hid hP5
          clear hT5 hg5 ho5 hP5 hXd
          have hS := (show RMoveS y (.slice x4 LX.length c4) rg (ro + j) (.slice qa qb.length qc) w5 from ⟨hcy5, hrc5⟩)
          refine (Hid.out hK) _ _ (fun _ => hS) ?_
          try simp only [Act.put, List.setIfInBounds_toArray, List.set_cons_zero, List.set_cons_succ]
          refine till_take 14 (v := ?_) rfl (by kernel_rfl) (fun _ _ _ h => h) (Or.inl ⟨by rfl, ?_⟩) hS ?_
          rotate_left
          focus (intro w' hSw; obtain ⟨hs0, hs1⟩ := hSw; go_simp; try (with_reducible rfl))
          try simp only [Act.put, List.setIfInBounds_toArray, List.set_cons_zero, List.set_cons_succ]
          refine till_take 15 (v := ?_) rfl (by kernel_rfl) (fun _ _ _ h => h) (Or.inl ⟨by rfl, ?_⟩) hS ?_
          rotate_left
          focus (intro w' hSw; obtain ⟨hs0, hs1⟩ := hSw; go_simp; try (with_reducible rfl))
          try simp only [Act.put, List.setIfInBounds_toArray, List.set_cons_zero, List.set_cons_succ]
          refine till_ready [16] (by kernel_rfl) (TillReady.cons 16 rfl (fun K hK => ?_) TillReady.nil)
          go_simp
          refine (Hid.out hK) _ _ (fun h => absurd rfl h) ?_
          refine till_done (by kernel_rfl) ?_
          refine NoPanic.normal ?_
          go_wp2
          go_tidy
          have hM0 : M[j]? = some ((f, t), .slice pva pb.length pvc, pb) := by rw [HM.out]; exact insert_at (by rw [HNL.out]; omega)
          have hM1 : M[j + 1]? = some ((f, t), .slice qa qb.length qc, qb) := by rw [HM.out]; exact insert_after HQ.out (Nat.le_refl _) (by rw [HNL.out]; omega)
          have hE : kept f t true (L.eraseIdx i) ++ M.take (tk j (j + 1)) = LX ++ [((f, t), .slice qa qb.length qc, qb)] := by
            rw [HLXE.out, ← HLX0.out, List.append_assoc, List.append_assoc]
            congr 1
            unfold tk
            rw [if_pos (Nat.lt_succ_self j), if_neg (Nat.lt_irrefl j), ← List.append_assoc, take_push hM0, take_push hM1]
          refine ⟨⟨j + 1, by omega, rfl, _, ?_, (HSj.out.trans HXS.out H3.out.box.lt).trans ((RefStep.of_below (Below.refl _ W).drew y _).trans HP5.out.2 HX.out.box.lt) H3.out.box.lt⟩, by simp [intOf]; omega⟩
          rw [hE]; exact HP5.out.1
        · have hdj2 : ¬ ((j : Int) = (d : Int)) := by omega
          go_wp2
          refine wp_region_noPanic ?_
          refine till_start (RMoveS y (.slice xa0 LX0.length xc0) rg (ro + j) (.slice qa qb.length qc)) 16 (by kernel_rfl) ?_
          have hS := (show RMoveS y (.slice xa0 LX0.length xc0) rg (ro + j) (.slice qa qb.length qc) wr.drew from ⟨HNj.out.box.cell (j := 0) rfl, hrc⟩)
          show AnyTill _ _ _ _ _ _ 17 (Array.replicate 17 false) _ _
          refine till_take 0 (v := ?_) rfl (by kernel_rfl) (fun _ _ _ h => h) (Or.inl ⟨by rfl, ?_⟩) hS ?_
          rotate_left
          focus (intro w' hSw; obtain ⟨hs0, hs1⟩ := hSw; go_simp; try (with_reducible rfl))
          try simp only [Act.put, List.setIfInBounds_toArray, List.set_cons_zero, List.set_cons_succ]
          refine till_take 1 (v := ?_) rfl (by kernel_rfl) (fun _ _ _ h => h) (Or.inl ⟨by rfl, ?_⟩) hS ?_
          rotate_left
          focus (intro w' hSw; obtain ⟨hs0, hs1⟩ := hSw; go_simp; try (with_reducible rfl))
          try simp only [Act.put, List.setIfInBounds_toArray, List.set_cons_zero, List.set_cons_succ]
          refine till_take 2 (v := ?_) rfl (by kernel_rfl) (fun _ _ _ h => h) (Or.inl ⟨by rfl, ?_⟩) hS ?_
          rotate_left
          focus (intro w' hSw; obtain ⟨hs0, hs1⟩ := hSw; go_simp; try (with_reducible rfl))
          try simp only [Act.put, List.setIfInBounds_toArray, List.set_cons_zero, List.set_cons_succ]
          refine till_take 3 (v := ?_) rfl (by kernel_rfl) (fun _ _ _ h => h) (Or.inl ⟨by rfl, ?_⟩) hS ?_
          rotate_left
          focus (intro w' hSw; obtain ⟨hs0, hs1⟩ := hSw; go_simp; try (with_reducible rfl))
          try simp only [Act.put, List.setIfInBounds_toArray, List.set_cons_zero, List.set_cons_succ]
          refine till_take 4 (v := ?_) rfl (by kernel_rfl) (fun _ _ _ h => h) (Or.inl ⟨by rfl, ?_⟩) hS ?_
          rotate_left
          focus (intro w' hSw; obtain ⟨hs0, hs1⟩ := hSw; go_simp; try (with_reducible rfl))
          try simp only [Act.put, List.setIfInBounds_toArray, List.set_cons_zero, List.set_cons_succ]
          refine till_take 5 (v := ?_) rfl (by kernel_rfl) (fun _ _ _ h => h) (Or.inl ⟨by rfl, ?_⟩) hS ?_
          rotate_left
          focus (intro w' hSw; obtain ⟨hs0, hs1⟩ := hSw; go_simp; try (with_reducible rfl))
          try simp only [Act.put, List.setIfInBounds_toArray, List.set_cons_zero, List.set_cons_succ]
          refine till_take 6 (v := ?_) rfl (by kernel_rfl) (fun _ _ _ h => h) (Or.inl ⟨by rfl, ?_⟩) hS ?_
          rotate_left
          focus (intro w' hSw; obtain ⟨hs0, hs1⟩ := hSw; go_simp; try (with_reducible rfl))
          try simp only [Act.put, List.setIfInBounds_toArray, List.set_cons_zero, List.set_cons_succ]
          refine till_take 7 (v := ?_) rfl (by kernel_rfl) (fun _ _ _ h => h) (Or.inl ⟨by rfl, ?_⟩) hS ?_
          rotate_left
          focus (intro w' hSw; obtain ⟨hs0, hs1⟩ := hSw; go_simp; try (with_reducible rfl))
          try simp only [Act.put, List.setIfInBounds_toArray, List.set_cons_zero, List.set_cons_succ]
          refine till_take 8 (v := ?_) rfl (by kernel_rfl) (fun _ _ _ h => h) (Or.inl ⟨by rfl, ?_⟩) hS ?_
          rotate_left
          focus (intro w' hSw; obtain ⟨hs0, hs1⟩ := hSw; go_simp; try (with_reducible rfl))
          try simp only [Act.put, List.setIfInBounds_toArray, List.set_cons_zero, List.set_cons_succ]
          refine till_take 9 (v := ?_) rfl (by kernel_rfl) (fun _ _ _ h => h) (Or.inl ⟨by rfl, ?_⟩) hS ?_
          rotate_left
          focus (intro w' hSw; obtain ⟨hs0, hs1⟩ := hSw; go_simp; try (with_reducible rfl))
          try simp only [Act.put, List.setIfInBounds_toArray, List.set_cons_zero, List.set_cons_succ]
          refine till_take 10 (v := ?_) rfl (by kernel_rfl) (fun _ _ _ h => h) (Or.inl ⟨by rfl, ?_⟩) hS ?_
          rotate_left
          focus (intro w' hSw; obtain ⟨hs0, hs1⟩ := hSw; go_simp; try (with_reducible rfl))
          try simp only [Act.put, List.setIfInBounds_toArray, List.set_cons_zero, List.set_cons_succ]
          refine till_take 11 (v := ?_) rfl (by kernel_rfl) (fun _ _ _ h => h) (Or.inl ⟨by rfl, ?_⟩) hS ?_
          rotate_left
          focus (intro w' hSw; obtain ⟨hs0, hs1⟩ := hSw; go_simp; try (with_reducible rfl))
          try simp only [Act.put, List.setIfInBounds_toArray, List.set_cons_zero, List.set_cons_succ]
          refine till_ready [12] (by kernel_rfl) (TillReady.cons 12 rfl (fun K hK => ?_) TillReady.nil)
          go_simp
          have hS := (show RMoveS y (.slice xa0 LX0.length xc0) rg (ro + j) (.slice qa qb.length qc) (wr.drew.alloc (.cells #[.int .i64 f, .int .i64 t, .slice qa qb.length qc] 73)) from ⟨Lib.cell?_alloc_some _ (HNj.out.box.cell (j := 0) rfl), Lib.cell?_alloc_some _ hrc⟩)
          refine (Hid.out hK) _ _ (fun _ => hS) ?_
          try simp only [Act.put, List.setIfInBounds_toArray, List.set_cons_zero, List.set_cons_succ]
          refine till_ready [13] (by kernel_rfl) (TillReady.cons 13 rfl (fun K hK => ?_) TillReady.nil)
          refine step_append_fresh (wr.drew.alloc (.cells #[.int .i64 f, .int .i64 t, .slice qa qb.length qc] 73)) rfl (.tmp 75) (.tmp 83) 44 rfl w0.heap.size 73 (.agg #[.int .i64 0, .int .i64 0, .slice none 0 0]) 3 40 underlying44 info73 rfl (by decide) (.slice xa0 LX0.length xc0) LX0.length (LX0.flatMap encK) (by rfl) (HNj.out.row.drew.alloc _) ⟨wr.heap.size, 0, none⟩ 1 1 [.int .i64 f, .int .i64 t, .slice qa qb.length qc] (by rfl) rfl (cell_new wr.drew [.int .i64 f, .int .i64 t, .slice qa qb.length qc] 73) (by simp [Value.oneCell']) (by unfold maxLen; omega) (by omega) (by rw [World.size_alloc]; exact Nat.le_succ_of_le HNj.out.old.size) ?_
          intro v5 w5 hT5 hg5 ho5
          obtain ⟨x5, c5, rfl⟩ := owns_slice hT5
          have hXd : RefAt w0 wr.drew y (.slice xa0 LX0.length xc0) LX0 := HNj.out.below (Below.refl _ wr).drew
          obtain ⟨hB5, hP5, hF5⟩ := ref_push (p := ((f, t), .slice qa qb.length qc, qb)) hXd rfl hT5 hg5 ho5 HQP.out
          have hrc5 : w5.cell? ⟨rg, ro + j, none⟩ = some (.slice qa qb.length qc) := by
            rw [World.cell?_of_block (a := ⟨rg, ro + j, none⟩) (hF5.block rg hrl (fun hx => HNO.out hx))]; exact hrc
          have hcy5 := hB5.cell (j := 0) (u := .slice xa0 LX0.length xc0) rfl
          have hfy5 := hB5.free 0
          have hy5 := hB5.lt
          have HP5 := Lib.hid hP5
          clear hT5 hg5 ho5 hP5 hXd
          have hS := (show RMoveS y (.slice xa0 LX0.length xc0) rg (ro + j) (.slice qa qb.length qc) w5 from ⟨hcy5, hrc5⟩)
          refine (Hid.out hK) _ _ (fun _ => hS) ?_
          try simp only [Act.put, List.setIfInBounds_toArray, List.set_cons_zero, List.set_cons_succ]
          refine till_take 14 (v := ?_) rfl (by kernel_rfl) (fun _ _ _ h => h) (Or.inl ⟨by rfl, ?_⟩) hS ?_
          rotate_left
          focus (intro w' hSw; obtain ⟨hs0, hs1⟩ := hSw; go_simp; try (with_reducible rfl))
          try simp only [Act.put, List.setIfInBounds_toArray, List.set_cons_zero, List.set_cons_succ]
          refine till_take 15 (v := ?_) rfl (by kernel_rfl) (fun _ _ _ h => h) (Or.inl ⟨by rfl, ?_⟩) hS ?_
          rotate_left
          focus (intro w' hSw; obtain ⟨hs0, hs1⟩ := hSw; go_simp; try (with_reducible rfl))
          try simp only [Act.put, List.setIfInBounds_toArray, List.set_cons_zero, List.set_cons_succ]
          refine till_ready [16] (by kernel_rfl) (TillReady.cons 16 rfl (fun K hK => ?_) TillReady.nil)
          go_simp
          refine (Hid.out hK) _ _ (fun h => absurd rfl h) ?_
          refine till_done (by kernel_rfl) ?_
          refine NoPanic.normal ?_
          go_wp2
          go_tidy
          have hE : kept f t true (L.eraseIdx i) ++ M.take (tk d (j + 1)) = LX0 ++ [((f, t), .slice qa qb.length qc, qb)] := by
            rw [← HLX0.out, List.append_assoc]
            congr 1
            rcases Nat.lt_or_ge j d with h5 | h5
            · have hM0 := insert_before (p := ((f, t), Value.slice pva pb.length pvc, pb)) HQ.out h5 (by rw [HNL.out]; omega)
              rw [← HM.out] at hM0
              have e1 : tk d (j + 1) = tk d j + 1 := by unfold tk; rw [if_neg (by omega), if_neg (by omega)]
              rw [e1, take_push hM0]
            · have hM1 := insert_after (p := ((f, t), Value.slice pva pb.length pvc, pb)) HQ.out h5 (by rw [HNL.out]; omega)
              rw [← HM.out] at hM1
              have e1 : tk d j = j + 1 := by unfold tk; rw [if_pos (by omega)]
              have e2 : tk d (j + 1) = j + 1 + 1 := by unfold tk; rw [if_pos (by omega)]
              rw [e1, e2, take_push hM1]
          refine ⟨⟨j + 1, by omega, rfl, _, ?_, HSj.out.trans ((RefStep.of_below (Below.refl _ wr).drew y _).trans HP5.out.2 HNj.out.box.lt) H3.out.box.lt⟩, by simp [intOf]; omega⟩
          rw [hE]; exact HP5.out.1
      · obtain rfl : j = nr := by omega
        by_cases hdj : j = d
        · subst hdj
          go_wp2_with (first
            | (at_builtin
               refine wpList_append_fresh (wr.alloc (.cells #[.int .i64 f, .int .i64 t, .slice pva pb.length pvc] 73)) rfl (.tmp 58) (.tmp 63) 44 rfl w0.heap.size 73 (.agg #[.int .i64 0, .int .i64 0, .slice none 0 0]) 3 40 underlying44 info73 rfl (by decide) (.slice xa0 LX0.length xc0) LX0.length (LX0.flatMap encK) (by rfl) (HNj.out.row.alloc _) ⟨wr.heap.size, 0, none⟩ 1 1 [.int .i64 f, .int .i64 t, .slice pva pb.length pvc] (by rfl) rfl (cell_new wr [.int .i64 f, .int .i64 t, .slice pva pb.length pvc] 73) (by simp [Value.oneCell']) (by unfold maxLen; omega) (by omega) (by have := HNj.out.old.size; simp; omega) ?_
               intro v4 w4 hT4 hg4 ho4
               obtain ⟨x4, c4, rfl⟩ := owns_slice hT4
               obtain ⟨hB4, hP4, hF4⟩ := ref_push (p := ((f, t), .slice pva pb.length pvc, pb)) HNj.out rfl hT4 hg4 ho4 HPK.out
               have hcy4 := hB4.cell (j := 0) (u := .slice xa0 LX0.length xc0) rfl
               have hfy4 := hB4.free 0
               have hy4 := hB4.lt
               have HP4 := Lib.hid hP4
               clear hT4 hg4 ho4 hP4 hB4 hF4)
            | fail)
          have hP4 := HP4.out
          clear HP4 hcy4 hfy4 hy4
          go_tidy
          have hM0 : M[j]? = some ((f, t), .slice pva pb.length pvc, pb) := by rw [HM.out]; exact insert_at (by rw [HNL.out]; omega)
          have hE : kept f t true (L.eraseIdx i) ++ M.take (tk j (j + 1)) = LX0 ++ [((f, t), .slice pva pb.length pvc, pb)] := by
            rw [← HLX0.out, List.append_assoc]
            congr 1
            unfold tk
            rw [if_pos (Nat.lt_succ_self j), if_neg (Nat.lt_irrefl j), take_push hM0]
            exact (List.take_of_length_le (by omega)).trans (List.take_of_length_le (by omega)).symm
          refine ⟨⟨j + 1, by omega, rfl, _, ?_, HSj.out.trans hP4.2 H3.out.box.lt⟩, by simp [intOf] <;> omega⟩
          rw [hE]; exact hP4.1
        · have hdj2 : ¬ ((j : Int) = (d : Int)) := by omega
          go_wp2
          go_tidy
          have hE : kept f t true (L.eraseIdx i) ++ M.take (tk d (j + 1)) = LX0 := by
            rw [← HLX0.out]
            congr 1
            unfold tk
            rw [if_pos (by omega), if_pos (by omega)]
            exact (List.take_of_length_le (by omega)).trans (List.take_of_length_le (by omega)).symm
          refine ⟨⟨j + 1, by omega, rfl, _, ?_, HSj.out⟩, by simp [intOf] <;> omega⟩
          rw [hE]; exact HNj.out
end
end Go.Proofs.Ytkkambhkfegodaa
