/- One is learnt: the walk. Conditions: each law's own. -/
import Derived.Test.YtamjdghjaimihaaQLearn
namespace Go.Proofs.Ytamjdghjaimihaa
open Go.ChangeShapes Go.WideShapes Go.ChangeAt Go.RowKit
open Go.ChangeMaps (setBlock)

theorem rows_enc (xs : List Int) : xs.map (Value.int .i64) = xs.flatMap encG := by
  induction xs with
  | nil => rfl
  | cons a l ih => rw [List.map_cons, List.flatMap_cons, ih]; rfl
theorem owns_rowG {w : World} {B : Nat} {v : Value} {xs : List Int} (h : w.ownsRow B 3 1 v xs.length (xs.map (Value.int .i64))) : RowOf encG 1 w v xs := by
  rw [rows_enc] at h
  exact RowOf.of_owns (fun _ => rfl) h rfl
def LearnF (p m : Nat) (gs : Value) (l : IEnts) (c : Nat) (W : World) : Prop := W.cell? ⟨p, 4, none⟩ = some (.map (some m)) ∧ W.cell? ⟨p, 1 + 1, none⟩ = some gs ∧ W.heap[m]? = some (.map (entsI l) c)
theorem OneAt.learnF {w : World} {g : Int} {B : Nat} {y : MemO} (h : OneAt w g B y) (l : IEnts) (c : Nat) :
    LearnF y.p y.m y.gs l c (setBlock w y.m (.map (entsI l) c)) ∧ VarAt (setBlock w y.m (.map (entsI l) c)) y.p 84 (encOne y.o.id.s y.o.id.q y.gs (y.o.kn g) (.map (some y.m)) (final y.o)) := by
  have hpm : y.p ≠ y.m := fun e => by
    have h1 := h.box; have h2 := h.map
    unfold VarAt at h1; unfold IMap at h2
    rw [e, h2] at h1
    injection h1 with h1; cases h1
  have hb : VarAt (setBlock w y.m (.map (entsI l) c)) y.p 84 (encOne y.o.id.s y.o.id.q y.gs (y.o.kn g) (.map (some y.m)) (final y.o)) := by
    unfold VarAt setBlock
    rw [Array.getElem?_setIfInBounds_ne (Ne.symm hpm)]
    exact h.box
  exact ⟨⟨hb.cell (j := 4) rfl, hb.cell (j := 1 + 1) rfl, h.map.set⟩, hb⟩
theorem setBlock_size (w : World) (r : Nat) (o : Obj) : (setBlock w r o).heap.size = w.heap.size := by unfold setBlock; simp
theorem setBlock_other (w : World) (r : Nat) (o : Obj) {j : Nat} (h : j ≠ r) : (setBlock w r o).heap[j]? = w.heap[j]? := by unfold setBlock; simp only; rw [Array.getElem?_setIfInBounds_ne (Ne.symm h)]
theorem entsI_size (l : IEnts) : (entsI l).size = l.length := by unfold entsI; simp
section
variable {w : World} {x : Nat} {g : Int} {S : QS} {M : List MemO} {v : Value} {B : Nat}
set_option maxHeartbeats 8000000 in
set_option maxRecDepth 1000000 in
theorem c31 (h : QAt w x g S M v B) (id : IdD) (k t : Int) (hMl : M.length ≤ 1000) :
    Calls Try.prog 31 #[.pointer (some ⟨x, 0, none⟩), .agg #[.int .i64 id.s, .int .i64 id.q], .int .i64 k, .int .u64 t] w (QEnd x g B w M v (.int .i64 (learnS g S id k t).1) (learnS g S id k t).2) := by
  refine gen (S := QEnd x g B w M v (.int .i64 (learnS g S id k t).1) (learnS g S id k t).2) fun R hR => ?_
  have hb0 : Below w.heap.size w (w.alloc (.cells #[.int .i64 id.s, .int .i64 id.q] 31)) := (Below.refl _ _).alloc (Nat.le_refl _) _
  have stay : ∀ e, learnS g S id k t = (e, S) → ∀ W, Below w.heap.size w W → R (.returned (.int .i64 e)) W := fun e hd W hb => hR _ _ (by rw [hd]; exact ⟨rfl, M, v, h.below hb, QStep.of_below hb⟩)
  have STAY := Lib.hid stay
  have h34 := c34 (h.below hb0) id
  have H34 := Lib.hid h34
  have HQ := Lib.hid h
  have HB0 := Lib.hid hb0
  have HR := Lib.hid hR
  have HMl := Lib.hid hMl
  have eg : ∀ args w, (callFunc 37 args).run Try.prog w = .ok (.enter 37 args) w := enters_of Try.func37 (by kernel_rfl) rfl
  clear h hb0 h34 hR stay hMl
  go_enter Try.func31, Try.ntmps31
  go_upto_region 2 with (first | (go_at_call 34; refine H34.out.mono ?_; rintro e w2 ⟨hb2, hn⟩; have HN := Lib.hid hn; have HB2 := Lib.hid (HB0.out.trans (hb2.mono HB0.out.size)); clear hb2 hn; rcases HN.out with ⟨rfl, hno⟩ | ⟨i, y, rfl, hy, he⟩) | fail)
  · have hd : learnS g S id k t = (6, S) := by unfold learnS; rw [HQ.out.lost hno]
    have END := Lib.hid (STAY.out _ hd _ HB2.out)
    clear hno hd
    go_wp2
    go_tidy
    exact END.out
  · have hym := List.mem_of_getElem? hy
    have hf := HQ.out.found hym
    rw [he] at hf
    have hq2 := HQ.out.below HB2.out
    have hone := hq2.ones y hym
    have hok := hq2.okOf hym
    have hrow := owns_rowG hone.row
    have H46 := Lib.hid (c46 hrow k)
    have b2 := hone.box.cell (j := 1 + 1) rfl
    have b4 := hone.box.cell (j := 4) rfl
    have bl := hone.box.lt
    have x0 := hq2.box.cell (j := 0) rfl
    have xl := hq2.box.lt
    have HY := Lib.hid (And.intro hym he)
    have HF := Lib.hid hf
    have HONE := Lib.hid hone
    have HOK := Lib.hid hok
    have HQ2 := Lib.hid hq2
    have hbad : (k = g ∨ k ∉ y.o.groups ∨ t < 1 ∨ mostS < t) → R (.returned (.int .i64 1)) w2 := fun hb => STAY.out _ (by unfold learnS; rw [HF.out]; simp only; rw [if_pos hb]) _ HB2.out
    have BAD := Lib.hid hbad
    clear hy he hym hf hq2 hone hok hrow hbad HN
    unfold ptr
    by_cases h1 : k = g
    · have h1b : (k == g) = true := by simpa using h1
      have END := Lib.hid (BAD.out (.inl h1))
      clear h1
      go_wp2
      go_tidy
      exact END.out
    · have h1b : (k == g) = false := by simpa using h1
      have H1 := Lib.hid h1
      clear h1
      by_cases h2 : k ∈ y.o.groups
      · have h2b : decide (k ∈ y.o.groups) = true := decide_eq_true h2
        rw [h2b] at H46
        have H2 := Lib.hid h2
        clear h2 h2b
        by_cases h3 : t < 1
        · have END := Lib.hid (BAD.out (.inr (.inr (.inl h3))))
          have h3b : decide (t < 1) = true := decide_eq_true h3
          go_wp2_with (first | (go_at_call 46; refine H46.out.mono ?_; rintro e w1 ⟨rfl, rfl⟩) | fail)
          go_tidy
          exact END.out
        · have h3b : decide (t < 1) = false := decide_eq_false h3
          by_cases h4 : 4611686018427387904 < t
          · have END := Lib.hid (BAD.out (.inr (.inr (.inr h4))))
            have h4b : decide (4611686018427387904 < t) = true := decide_eq_true h4
            go_wp2_with (first | (go_at_call 46; refine H46.out.mono ?_; rintro e w1 ⟨rfl, rfl⟩) | fail)
            go_tidy
            exact END.out
          · have h4b : decide (4611686018427387904 < t) = false := decide_eq_false h4
            have HT := Lib.hid (show 1 ≤ t ∧ t ≤ mostS from ⟨by omega, by unfold mostS; omega⟩)
            have hgood : ¬ (k = g ∨ k ∉ y.o.groups ∨ t < 1 ∨ mostS < t) := by
              rintro (h | h | h | h)
              · exact H1.out h
              · exact h H2.out
              · exact h3 h
              · exact h4 h
            have hval : (valI y.l k).getD 0 = y.o.kn k := by
              rw [HONE.out.vals k H1.out]
              by_cases h0 : y.o.kn k = 0
              · rw [if_pos h0, h0]; rfl
              · rw [if_neg h0]; rfl
            have hlk := run_lookup_int HONE.out.map k
            rw [hval] at hlk
            have hk0 := (HOK.out.small k).1
            by_cases h0 : y.o.kn k = 0
            · rw [h0] at hlk
              have hS : learnS g S id k t = (0, ⟨clockL g S (setKn y.o k t), put S.L (setKn y.o k t)⟩) := by unfold learnS; rw [HF.out]; simp only; rw [if_neg hgood, if_neg (by simpa using h0)]; rfl
              have hend : ∀ W M', QAt W x g ⟨clockL g S (setKn y.o k t), put S.L (setKn y.o k t)⟩ M' v B → QStep x w M v W M' v → R (.returned (.int .i64 0)) W := fun W M' h1 h2 => HR.out _ _ (by rw [hS]; exact ⟨rfl, M', v, h1, h2⟩)
              have END := Lib.hid hend
              have hnone : valI y.l k = none := by rw [HONE.out.vals k H1.out, if_pos h0]
              have hup := run_update_int HONE.out.map k t hnone
              have H0 := Lib.hid h0
              clear hS hend hnone h0 hval hgood hk0
              go_upto_region 9 with (first | (go_at_call 46; refine H46.out.mono ?_; rintro e w1 ⟨rfl, rfl⟩) | fail)
              clear hlk h3 h4 h3b h4b hup
              have hrow := owns_rowG HONE.out.row
              obtain ⟨ga, gc, hgs, -⟩ := _root_.id hrow
              have hgl := hrow.len
              unfold maxLen at hgl
              have hgp : 0 < y.o.groups.length := List.length_pos_of_mem H2.out
              obtain ⟨hLF, hbx⟩ := HONE.out.learnF (y.l ++ [(k, t, y.mc)]) (y.mc + 1)
              have htold := HONE.out.told HOK.out H1.out H2.out HT.out.1 H0.out
              obtain ⟨W1, hW1⟩ : ∃ W1 : World, W1 = setBlock w1 y.m (.map (entsI (y.l ++ [(k, t, y.mc)])) (y.mc + 1)) := ⟨_, rfl⟩
              rw [← hW1] at hLF hbx htold ⊢
              rw [hgs] at hLF hbx
              have HTOLD := Lib.hid htold
              have hpb := hbx.lt
              have hpf := hbx.free 5
              have hp5 := hbx.cell (j := 5) rfl
              have hbv : (((entsI (y.l ++ [(k, t, y.mc)])).size : Int) == IntKind.i64.wrap ((y.o.groups.length : Int) - 1)) = final (setKn y.o k t) := by
                rw [htold.2, entsI_size, IntWalk.i64_in _ (by omega)]; rw [Bool.eq_iff_iff]; simp
              have HBV := Lib.hid hbv
              have HPM := Lib.hid (show y.p ≠ x ∧ y.m ≠ x from ⟨HQ2.out.xp HY.out.1, HQ2.out.xm HY.out.1⟩)
              have H5 := Lib.hid hW1
              clear hrow htold b2 b4 bl hW1 hbx hbv
              refine wp_region_noPanic ?_
              refine till_start (LearnF y.p y.m (.slice ga y.o.groups.length gc) (y.l ++ [(k, t, y.mc)]) (y.mc + 1)) 15 (by kernel_rfl) ?_
              have hS := hLF
              show AnyTill _ _ _ _ _ _ 16 (Array.replicate 16 false) _ _
              refine till_take 0 (v := ?_) rfl (by kernel_rfl) (fun _ _ _ h => h) (Or.inl ⟨by rfl, ?_⟩) hS ?_
              rotate_left
              focus (intro w' hSw; obtain ⟨hs1, hs2, hs3⟩ := hSw; go_simp; try (with_reducible rfl))
              try simp only [Act.put, List.setIfInBounds_toArray, List.set_cons_zero, List.set_cons_succ]
              refine till_take 1 (v := ?_) rfl (by kernel_rfl) (fun _ _ _ h => h) (Or.inl ⟨by rfl, ?_⟩) hS ?_
              rotate_left
              focus (intro w' hSw; obtain ⟨hs1, hs2, hs3⟩ := hSw; go_simp; try (with_reducible rfl))
              try simp only [Act.put, List.setIfInBounds_toArray, List.set_cons_zero, List.set_cons_succ]
              refine till_take 2 (v := ?_) rfl (by kernel_rfl) (fun _ _ _ h => h) (Or.inl ⟨by rfl, ?_⟩) hS ?_
              rotate_left
              focus (intro w' hSw; obtain ⟨hs1, hs2, hs3⟩ := hSw; go_simp; try (with_reducible rfl))
              try simp only [Act.put, List.setIfInBounds_toArray, List.set_cons_zero, List.set_cons_succ]
              refine till_take 3 (v := ?_) rfl (by kernel_rfl) (fun _ _ _ h => h) (Or.inl ⟨by rfl, ?_⟩) hS ?_
              rotate_left
              focus (intro w' hSw; obtain ⟨hs1, hs2, hs3⟩ := hSw; go_simp; try (with_reducible rfl))
              try simp only [Act.put, List.setIfInBounds_toArray, List.set_cons_zero, List.set_cons_succ]
              refine till_take 4 (v := ?_) rfl (by kernel_rfl) (fun _ _ _ h => h) (Or.inl ⟨by rfl, ?_⟩) hS ?_
              rotate_left
              focus (intro w' hSw; obtain ⟨hs1, hs2, hs3⟩ := hSw; go_simp; try (with_reducible rfl))
              try simp only [Act.put, List.setIfInBounds_toArray, List.set_cons_zero, List.set_cons_succ]
              refine till_take 5 (v := ?_) rfl (by kernel_rfl) (fun _ _ _ h => h) (Or.inl ⟨by rfl, ?_⟩) hS ?_
              rotate_left
              focus (intro w' hSw; obtain ⟨hs1, hs2, hs3⟩ := hSw; have hlm := run_len_map (P := Try.prog) (w := w') 82 3 y.m (entsI (y.l ++ [(k, t, y.mc)])) (y.mc + 1) (by kernel_rfl) hs3; go_simp; try (with_reducible rfl))
              try simp only [Act.put, List.setIfInBounds_toArray, List.set_cons_zero, List.set_cons_succ]
              refine till_take 6 (v := ?_) rfl (by kernel_rfl) (fun _ _ _ h => h) (Or.inl ⟨by rfl, ?_⟩) hS ?_
              rotate_left
              focus (intro w' hSw; obtain ⟨hs1, hs2, hs3⟩ := hSw; go_simp; try (with_reducible rfl))
              try simp only [Act.put, List.setIfInBounds_toArray, List.set_cons_zero, List.set_cons_succ]
              refine till_take 7 (v := ?_) rfl (by kernel_rfl) (fun _ _ _ h => h) (Or.inl ⟨by rfl, ?_⟩) hS ?_
              rotate_left
              focus (intro w' hSw; obtain ⟨hs1, hs2, hs3⟩ := hSw; go_simp; try (with_reducible rfl))
              try simp only [Act.put, List.setIfInBounds_toArray, List.set_cons_zero, List.set_cons_succ]
              refine till_take 8 (v := ?_) rfl (by kernel_rfl) (fun _ _ _ h => h) (Or.inl ⟨by rfl, ?_⟩) hS ?_
              rotate_left
              focus (intro w' hSw; obtain ⟨hs1, hs2, hs3⟩ := hSw; go_simp; try (with_reducible rfl))
              try simp only [Act.put, List.setIfInBounds_toArray, List.set_cons_zero, List.set_cons_succ]
              refine till_take 9 (v := ?_) rfl (by kernel_rfl) (fun _ _ _ h => h) (Or.inl ⟨by rfl, ?_⟩) hS ?_
              rotate_left
              focus (intro w' hSw; obtain ⟨hs1, hs2, hs3⟩ := hSw; go_simp; try (with_reducible rfl))
              try simp only [Act.put, List.setIfInBounds_toArray, List.set_cons_zero, List.set_cons_succ]
              refine till_take 10 (v := ?_) rfl (by kernel_rfl) (fun _ _ _ h => h) (Or.inl ⟨by rfl, ?_⟩) hS ?_
              rotate_left
              focus (intro w' hSw; obtain ⟨hs1, hs2, hs3⟩ := hSw; go_simp; try (with_reducible rfl))
              try simp only [Act.put, List.setIfInBounds_toArray, List.set_cons_zero, List.set_cons_succ]
              refine till_take 11 (v := ?_) rfl (by kernel_rfl) (fun _ _ _ h => h) (Or.inl ⟨by rfl, ?_⟩) hS ?_
              rotate_left
              focus (intro w' hSw; obtain ⟨hs1, hs2, hs3⟩ := hSw; go_simp; try (with_reducible rfl))
              try simp only [Act.put, List.setIfInBounds_toArray, List.set_cons_zero, List.set_cons_succ]
              refine till_take 12 (v := ?_) rfl (by kernel_rfl) (fun _ _ _ h => h) (Or.inl ⟨by rfl, ?_⟩) hS ?_
              rotate_left
              focus (intro w' hSw; obtain ⟨hs1, hs2, hs3⟩ := hSw; go_simp; try (with_reducible rfl))
              try simp only [Act.put, List.setIfInBounds_toArray, List.set_cons_zero, List.set_cons_succ]
              refine till_take 13 (v := ?_) rfl (by kernel_rfl) (fun _ _ _ h => h) (Or.inl ⟨by rfl, ?_⟩) hS ?_
              rotate_left
              focus (intro w' hSw; obtain ⟨hs1, hs2, hs3⟩ := hSw; go_simp; try (with_reducible rfl))
              try simp only [Act.put, List.setIfInBounds_toArray, List.set_cons_zero, List.set_cons_succ]
              refine till_take 14 (v := ?_) rfl (by kernel_rfl) (fun _ _ _ h => h) (Or.inl ⟨by rfl, ?_⟩) hS ?_
              rotate_left
              focus (intro w' hSw; obtain ⟨hs1, hs2, hs3⟩ := hSw; go_simp; try (with_reducible rfl))
              try simp only [Act.put, List.setIfInBounds_toArray, List.set_cons_zero, List.set_cons_succ]
              refine till_ready [15] (by kernel_rfl) (TillReady.cons 15 rfl (fun K hK => ?_) TillReady.nil)
              go_simp
              rw [HBV.out]
              try simp only [Result.andThen_ok, Oper.upon]
              refine (Hid.out hK) _ _ (fun h => absurd rfl h) ?_
              refine till_done (by kernel_rfl) ?_
              refine NoPanic.normal ?_
              obtain ⟨W2, hW2⟩ : ∃ W2 : World, W2 = (W1.setCell ⟨y.p, 5, none⟩ (.bool (final (setKn y.o k t)))).drew := ⟨_, rfl⟩
              rw [← hW2]
              have hone2 : OneAt W2 g B (tellM y k t) := by rw [hW2]; exact HTOLD.out.1.below (Below.refl _ _).drew
              have hsz2 : W2.heap.size = w1.heap.size := by
                rw [hW2, H5.out]
                show ((setBlock _ _ _).setCell _ _).heap.size = _
                rw [World.size_setCell, setBlock_size]
              have hk2 : ∀ j, j ≠ y.p → j ≠ y.m → W2.heap[j]? = w1.heap[j]? := fun j h1 h2 => by
                rw [hW2, H5.out]
                show ((setBlock _ _ _).setCell _ _).heap[j]? = _
                rw [Below.heap_setCell _ _ _ j (by simpa using h1), setBlock_other _ _ _ h2]
              have hoo2 : W2.os = w1.os ∧ W2.tape = w1.tape ∧ W2.output = w1.output := by rw [hW2, H5.out]; exact ⟨rfl, rfl, rfl⟩
              have hx2 : VarAt W2 x 78 [.int .i64 g, .int .u64 S.clock, v] := by
                unfold VarAt; rw [hk2 x (Ne.symm HPM.out.1) (Ne.symm HPM.out.2)]; exact HQ2.out.box
              have hq5 := hone2.box.cell (j := 5) rfl
              have hpl := hone2.box.lt
              have x1 := hx2.cell (j := 1) rfl
              have xfr := hx2.free 1
              have xl2 := hx2.lt
              have HW := Lib.hid (And.intro hsz2 (And.intro hk2 hoo2))
              have HX2 := Lib.hid hx2
              have HONE2 := Lib.hid hone2
              have hfo : final (tellM y k t).o = final (setKn y.o k t) := rfl
              rw [hfo] at hq5
              have hpp : (tellM y k t).p = y.p := rfl
              rw [hpp] at hq5 hpl
              clear hfo hpp hsz2 hk2 hoo2 hx2 hone2 hW2 hpb hpf hp5 hgl hgp hS hLF x0 xl
              cases hF : final (setKn y.o k t) with
              | false =>
                rw [hF] at hq5
                have hcl : clockL g S (setKn y.o k t) = S.clock := by unfold clockL; rw [hF]; rfl
                have hall := HQ2.out.told HY.out.1 H1.out H2.out HT.out.1 HT.out.2 HONE2.out (by rw [hcl]; exact HX2.out) (by rw [HW.out.1]; exact Nat.le_refl _) (fun j _ h1 h2 _ => HW.out.2.1 j h1 h2) HW.out.2.2.1 HW.out.2.2.2.1 HW.out.2.2.2.2
                rw [HY.out.2] at hall
                have hMp : 0 < M.length := List.length_pos_of_mem HY.out.1
                have HC36 := Lib.hid (c36r hall.1 (by rw [hall.2.2]; omega) (by rw [hall.2.2]; have := HMl.out; omega))
                have HSTEP := Lib.hid ((QStep.of_below HB2.out).trans hall.2.1)
                clear hall hMp hcl
                go_wp2_with (first | (go_at_call 36; refine HC36.out.mono ?_; rintro e w5 ⟨rfl, M3, hq5, hs5⟩; have HQ5 := Lib.hid (And.intro hq5 (HSTEP.out.trans hs5)); clear hq5 hs5) | fail)
                go_tidy
                exact END.out _ _ HQ5.out.1 HQ5.out.2
              | true =>
                rw [hF] at hq5
                have HFT := Lib.hid hF
                have hcl : clockL g S (setKn y.o k t) = max S.clock (stampS g (setKn y.o k t)) := by unfold clockL; rw [hF]; rfl
                have HCL := Lib.hid hcl
                have ok2 : OneOk g (clockL g S (setKn y.o k t)) (tellM y k t).o := setKn_ok HOK.out H1.out H2.out HT.out.1 HT.out.2 (clockL_ge g S _) (stamp_clockL HOK.out H1.out)
                have H37 := fun W (hb : Below W2.heap.size W2 W) => c37o (HONE2.out.below hb) ok2
                have H37 := Lib.hid H37
                clear ok2 hcl hF
                go_upto_region 11 with fail
                have x3 : (fun W : World => W.cell? ⟨x, 1, none⟩ = some (.int .u64 S.clock) ∧ W.frozen? ⟨x, 1, none⟩ = false ∧ x < W.heap.size) W2.drew := ⟨x1, xfr, xl2⟩
                refine wp_region_noPanic ?_
                refine till_start (fun W => W.cell? ⟨x, 1, none⟩ = some (.int .u64 S.clock) ∧ W.frozen? ⟨x, 1, none⟩ = false ∧ x < W.heap.size) 10 (by kernel_rfl) ?_
                have hS := x3
                show AnyTill _ _ _ _ _ _ 11 (Array.replicate 11 false) _ _
                refine till_take 0 (v := ?_) rfl (by kernel_rfl) (fun _ _ _ h => h) (Or.inl ⟨by rfl, ?_⟩) hS ?_
                rotate_left
                focus (intro w' hSw; obtain ⟨hs1, hs2, hs3⟩ := hSw; go_simp; try (with_reducible rfl))
                try simp only [Act.put, List.setIfInBounds_toArray, List.set_cons_zero, List.set_cons_succ]
                refine till_take 1 (v := ?_) rfl (by kernel_rfl) (fun _ _ _ h => h) (Or.inl ⟨by rfl, ?_⟩) hS ?_
                rotate_left
                focus (intro w' hSw; obtain ⟨hs1, hs2, hs3⟩ := hSw; go_simp; try (with_reducible rfl))
                try simp only [Act.put, List.setIfInBounds_toArray, List.set_cons_zero, List.set_cons_succ]
                refine till_take 2 (v := ?_) rfl (by kernel_rfl) (fun _ _ _ h => h) (Or.inl ⟨by rfl, ?_⟩) hS ?_
                rotate_left
                focus (intro w' hSw; obtain ⟨hs1, hs2, hs3⟩ := hSw; go_simp; try (with_reducible rfl))
                try simp only [Act.put, List.setIfInBounds_toArray, List.set_cons_zero, List.set_cons_succ]
                refine till_take 3 (v := ?_) rfl (by kernel_rfl) (fun _ _ _ h => h) (Or.inl ⟨by rfl, ?_⟩) hS ?_
                rotate_left
                focus (intro w' hSw; obtain ⟨hs1, hs2, hs3⟩ := hSw; go_simp; try (with_reducible rfl))
                try simp only [Act.put, List.setIfInBounds_toArray, List.set_cons_zero, List.set_cons_succ]
                refine till_take 4 (v := ?_) rfl (by kernel_rfl) (fun _ _ _ h => h) (Or.inl ⟨by rfl, ?_⟩) hS ?_
                rotate_left
                focus (intro w' hSw; obtain ⟨hs1, hs2, hs3⟩ := hSw; go_simp; try (with_reducible rfl))
                try simp only [Act.put, List.setIfInBounds_toArray, List.set_cons_zero, List.set_cons_succ]
                refine till_take 5 (v := ?_) rfl (by kernel_rfl) (fun _ _ _ h => h) (Or.inl ⟨by rfl, ?_⟩) hS ?_
                rotate_left
                focus (intro w' hSw; obtain ⟨hs1, hs2, hs3⟩ := hSw; go_simp; try (with_reducible rfl))
                try simp only [Act.put, List.setIfInBounds_toArray, List.set_cons_zero, List.set_cons_succ]
                refine till_ready [6] (by kernel_rfl) (TillReady.cons 6 rfl (fun K hK => ?_) TillReady.nil)
                go_simp
                refine (H37.out W2.drew (Below.refl _ _).drew).mono ?_
                rintro e w3 ⟨rfl, q, os, hw3⟩
                have hb3 : Below W2.heap.size W2 w3 := by rw [hw3]; exact (((Below.refl _ _).drew).trans ((grow_below _ q os).mono (Nat.le_refl _)))
                have hx3 := HX2.out.keep hb3 HX2.out.lt
                have y1 := hx3.cell (j := 1) rfl
                have yf := hx3.free 1
                have yl := hx3.lt
                have hS : (fun W : World => W.cell? ⟨x, 1, none⟩ = some (.int .u64 S.clock) ∧ W.frozen? ⟨x, 1, none⟩ = false ∧ x < W.heap.size) w3 := ⟨y1, yf, yl⟩
                have HW3 := Lib.hid (And.intro hb3 hx3)
                clear hw3 hb3 hx3
                refine (Hid.out hK) _ _ (fun _ => hS) ?_
                try simp only [Act.put, List.setIfInBounds_toArray, List.set_cons_zero, List.set_cons_succ]
                refine till_take 7 (v := ?_) rfl (by kernel_rfl) (fun _ _ _ h => h) (Or.inl ⟨by rfl, ?_⟩) hS ?_
                rotate_left
                focus (intro w' hSw; obtain ⟨hs1, hs2, hs3⟩ := hSw; go_simp; try (with_reducible rfl))
                try simp only [Act.put, List.setIfInBounds_toArray, List.set_cons_zero, List.set_cons_succ]
                refine till_take 8 (v := ?_) rfl (by kernel_rfl) (fun _ _ _ h => h) (Or.inl ⟨by rfl, ?_⟩) hS ?_
                rotate_left
                focus (intro w' hSw; obtain ⟨hs1, hs2, hs3⟩ := hSw; go_simp; try (with_reducible rfl))
                try simp only [Act.put, List.setIfInBounds_toArray, List.set_cons_zero, List.set_cons_succ]
                refine till_take 9 (v := ?_) rfl (by kernel_rfl) (fun _ _ _ h => h) (Or.inl ⟨by rfl, ?_⟩) hS ?_
                rotate_left
                focus (intro w' hSw; obtain ⟨hs1, hs2, hs3⟩ := hSw; go_simp; try (with_reducible rfl))
                try simp only [Act.put, List.setIfInBounds_toArray, List.set_cons_zero, List.set_cons_succ]
                refine till_ready [10] (by kernel_rfl) (TillReady.cons 10 rfl (fun K hK => ?_) TillReady.nil)
                go_simp
                have hso : stampS g (tellM y k t).o = stampS g (setKn y.o k t) := rfl
                rw [hso, ← HCL.out]
                refine (Hid.out hK) _ _ (fun h => absurd rfl h) ?_
                refine till_done (by kernel_rfl) ?_
                refine NoPanic.normal ?_
                obtain ⟨W4, hW4⟩ : ∃ W4 : World, W4 = w3.setCell ⟨x, 1, none⟩ (.int .u64 (clockL g S (setKn y.o k t))) := ⟨_, rfl⟩
                rw [← hW4]
                obtain ⟨hb3, hx3⟩ := HW3.out
                obtain ⟨hsz2, hk2, ho1, ho2, ho3⟩ := HW.out
                have ks : ∀ j, j ≠ x → W4.heap[j]? = w3.heap[j]? := fun j hj => by rw [hW4]; exact Below.heap_setCell _ _ _ j (by simpa using hj)
                have hall := HQ2.out.told HY.out.1 H1.out H2.out HT.out.1 HT.out.2
                  ((HONE2.out.below hb3).keep (ks _ HPM.out.1) (ks _ HPM.out.2) fun j hj => ks j fun e => HQ2.out.xg HY.out.1 (by rw [← e]; exact hj))
                  (by rw [hW4]; exact hx3.set 1 _) (by rw [hW4]; have := hb3.size; simp; omega)
                  (fun j hl h1 h2 h3 => by rw [ks j h3, hb3.block j (by omega), hk2 j h1 h2])
                  (by rw [hW4]; exact hb3.os.trans ho1) (by rw [hW4]; exact hb3.tape.trans ho2) (by rw [hW4]; exact hb3.output.trans ho3)
                rw [HY.out.2] at hall
                have hMp : 0 < M.length := List.length_pos_of_mem HY.out.1
                have HC36 := Lib.hid (c36r hall.1 (by rw [hall.2.2]; omega) (by rw [hall.2.2]; have := HMl.out; omega))
                have HSTEP := Lib.hid ((QStep.of_below HB2.out).trans hall.2.1)
                clear hall hMp ks hb3 hx3 hsz2 hk2 ho1 ho2 ho3 y1 yf yl hS x1 x3 hW4
                go_wp2_with (first | (go_at_call 36; refine HC36.out.mono ?_; rintro e w5 ⟨rfl, M3, hq5, hs5⟩; have HQ5 := Lib.hid (And.intro hq5 (HSTEP.out.trans hs5)); clear hq5 hs5) | fail)
                go_tidy
                exact END.out _ _ HQ5.out.1 HQ5.out.2
            · have h0b : 0 < y.o.kn k := by omega
              have hS : learnS g S id k t = (0, S) := by unfold learnS; rw [HF.out]; simp only; rw [if_neg hgood, if_pos h0]
              have END := Lib.hid (STAY.out _ hS _ HB2.out)
              clear hS hgood hval h0
              go_wp2_with (first | (go_at_call 46; refine H46.out.mono ?_; rintro e w1 ⟨rfl, rfl⟩) | fail)
              go_tidy
              exact END.out
      · have h2b : decide (k ∈ y.o.groups) = false := decide_eq_false h2
        rw [h2b] at H46
        have END := Lib.hid (BAD.out (.inr (.inl h2)))
        clear h2 h2b
        go_wp2_with (first | (go_at_call 46; refine H46.out.mono ?_; rintro e w1 ⟨rfl, rfl⟩) | fail)
        go_tidy
        exact END.out
end
end Go.Proofs.Ytamjdghjaimihaa
