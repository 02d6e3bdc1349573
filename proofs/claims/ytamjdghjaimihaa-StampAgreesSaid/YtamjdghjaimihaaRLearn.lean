/- The reference: one is learnt. Conditions: each law's own. -/
import Derived.Test.YtamjdghjaimihaaRDone
namespace Go.Proofs.Ytamjdghjaimihaa
open Go.ChangeShapes Go.WideShapes Go.ChangeAt Go.RowKit

theorem flat_set {k t : Int} {kk : Nat} (hk : (kk : Int) = k) (hk4 : kk < 4) : ∀ {L : List RefO} {i : Nat} {y : RefO}, L[i]? = some y → (L.flatMap encR).set (i * 7 + (3 + kk)) (.int .u64 t) = (L.set i (setKn y.1 k t, y.2)).flatMap encR
  | [], _, _, h => by simp at h
  | a :: L, 0, y, h => by
    simp at h; subst h
    rw [List.flatMap_cons, List.set_cons_zero, List.flatMap_cons]
    subst hk
    have : kk = 0 ∨ kk = 1 ∨ kk = 2 ∨ kk = 3 := by omega
    rcases this with rfl | rfl | rfl | rfl <;> simp [encR, setKn]
  | a :: L, i + 1, y, h => by
    simp at h
    rw [List.flatMap_cons, List.set_cons_succ, List.flatMap_cons]
    have hl : (encR a).length = 7 := rfl
    rw [List.set_append_right _ _ (by rw [hl]; omega), hl, show (i + 1) * 7 + (3 + kk) - 7 = i * 7 + (3 + kk) by omega, flat_set hk hk4 h]
section
variable {w : World} {x : Nat} {g : Int} {S : QS} {L : List RefO} {lv : Value} {B : Nat}
theorem RefAt.lx (h : RefAt w x g S L lv B) : lv.ownBlock ≠ some x := fun hk => by
  obtain ⟨-, ⟨h3, -⟩ | ⟨g', cap', cur, h3, -, h4, -⟩⟩ := h.row
  · rw [h3] at hk; cases hk
  · rw [h3] at hk
    have hgk : g' = x := Option.some.inj hk
    have h1 := h.box
    unfold VarAt at h1
    rw [hgk, h1] at h4
    injection h4 with h4; injection h4 with h5 h6; cases h6
theorem RefAt.gx (h : RefAt w x g S L lv B) {z : RefO} (hz : z ∈ L) : z.2.ownBlock ≠ some x ∧ ∀ k, lv.ownBlock = some k → z.2.ownBlock ≠ some k := by
  refine ⟨fun hk => ?_, fun k hlk hk => ?_⟩
  · obtain ⟨-, ⟨h3, -⟩ | ⟨g', cap', cur, h3, -, h4, -⟩⟩ := h.gs z hz
    · rw [h3] at hk; cases hk
    · rw [h3] at hk
      have hgk : g' = x := Option.some.inj hk
      have h1 := h.box
      unfold VarAt at h1
      rw [hgk, h1] at h4
      injection h4 with h4; injection h4 with h5 h6; cases h6
  · obtain ⟨-, ⟨h3, -⟩ | ⟨g', cap', cur, h3, -, h4, -⟩⟩ := h.gs z hz
    · rw [h3] at hk; cases hk
    · rw [h3] at hk
      have hgk : g' = k := Option.some.inj hk
      obtain ⟨-, ⟨e3, -⟩ | ⟨g2, cap2, cur2, e3, -, e4, -⟩⟩ := h.row
      · rw [e3] at hlk; cases hlk
      · rw [e3] at hlk
        have hg2 : g2 = k := Option.some.inj hlk
        rw [hgk] at h4; rw [hg2, h4] at e4
        injection e4 with e4; injection e4 with e5 e6; cases e6
theorem RefAt.told1 {lk lc : Nat} (h : RefAt w x g S L (.slice (some ⟨lk, 0, none⟩) L.length lc) B) {i : Nat} {y : RefO} (hy : L[i]? = some y) {k t : Int} (kk : Nat) (hk : (kk : Int) = k) (hk4 : kk < 4) {W : World} (hW : W = w.setCell ⟨lk, i * 7 + (3 + kk), none⟩ (.int .u64 t)) :
    W.ownsRow B 55 7 (.slice (some ⟨lk, 0, none⟩) L.length lc) (L.set i (setKn y.1 k t, y.2)).length ((L.set i (setKn y.1 k t, y.2)).flatMap encR) ∧ VarAt W x 64 [.int .i64 g, .int .u64 S.clock, .slice (some ⟨lk, 0, none⟩) L.length lc] ∧
      W.heap.size = w.heap.size ∧ (∀ j, j ≠ lk → W.heap[j]? = w.heap[j]?) ∧ W.os = w.os ∧ W.tape = w.tape ∧ W.output = w.output ∧ GOk (setKn y.1 k t, y.2) W := by
  have hs := (h.row.stored (i * 7 + (3 + kk)) (.int .u64 t)).1
  rw [flat_set hk hk4 hy, ← hW] at hs
  have ks : ∀ j, j ≠ lk → W.heap[j]? = w.heap[j]? := fun j hj => by rw [hW]; exact Below.heap_setCell _ _ _ j (by simpa using hj)
  have hxl : x ≠ lk := fun e => h.lx (by rw [e]; rfl)
  have hgs := ownsRow_keep (w' := W) (h.gs y (List.mem_of_getElem? hy)) fun j hj => ks j fun e => (h.gx (List.mem_of_getElem? hy)).2 lk rfl (by rw [← e]; exact hj)
  refine ⟨by rw [List.length_set]; exact hs, by unfold VarAt; rw [ks x hxl]; exact h.box, by rw [hW]; simp, ks, by rw [hW]; rfl, by rw [hW]; rfl, by rw [hW]; rfl, ⟨owns_rowG hgs, (h.okOf (List.mem_of_getElem? hy)).range⟩⟩
theorem put_set {L : List OneD} {i : Nat} {o : OneD} (ha : Apart L) (ho : L[i]? = some o) (k t : Int) : L.set i (setKn o k t) = put L (setKn o k t) := by
  refine List.ext_getElem? fun j => ?_
  unfold put
  rw [List.getElem?_map, List.getElem?_set]
  unfold Apart at ha
  rw [List.pairwise_iff_getElem] at ha
  obtain ⟨hi, hio⟩ := List.getElem?_eq_some_iff.1 ho
  by_cases e : i = j
  · subst e
    rw [if_pos rfl, if_pos hi, ho]
    simp [setKn]
  · rw [if_neg e]
    cases hj : L[j]? with
    | none => rfl
    | some z =>
      obtain ⟨hjl, hjz⟩ := List.getElem?_eq_some_iff.1 hj
      have hne : z.id ≠ o.id := by
        rcases Nat.lt_or_ge i j with h1 | h1
        · have := ha i j hi hjl h1
          rw [hio, hjz] at this; exact fun h => this h.symm
        · have := ha j i hjl hi (by omega)
          rw [hio, hjz] at this; exact this
      simp [setKn, hne]
theorem RefAt.told {lk lc : Nat} (h : RefAt w x g S L (.slice (some ⟨lk, 0, none⟩) L.length lc) B) {i : Nat} {y : RefO} (hy : L[i]? = some y) {k t : Int} (hk : k ≠ g) (hm : k ∈ y.1.groups) (ht1 : 1 ≤ t) (ht2 : t ≤ mostS) {W : World}
    (hrow : W.ownsRow B 55 7 (.slice (some ⟨lk, 0, none⟩) L.length lc) (L.set i (setKn y.1 k t, y.2)).length ((L.set i (setKn y.1 k t, y.2)).flatMap encR)) (hbox : VarAt W x 64 [.int .i64 g, .int .u64 (clockL g S (setKn y.1 k t)), .slice (some ⟨lk, 0, none⟩) L.length lc])
    (hsz : w.heap.size ≤ W.heap.size) (hkeep : ∀ j, j < w.heap.size → j ≠ lk → j ≠ x → W.heap[j]? = w.heap[j]?) (hos : W.os = w.os) (htp : W.tape = w.tape) (hout : W.output = w.output) :
    RefAt W x g ⟨clockL g S (setKn y.1 k t), Go.Proofs.Ytamjdghjaimihaa.put S.L (setKn y.1 k t)⟩ (L.set i (setKn y.1 k t, y.2)) (.slice (some ⟨lk, 0, none⟩) L.length lc) B ∧ RStep x w L (.slice (some ⟨lk, 0, none⟩) L.length lc) W (L.set i (setKn y.1 k t, y.2)) (.slice (some ⟨lk, 0, none⟩) L.length lc) := by
  have hmem := List.mem_of_getElem? hy
  have h1 : (L.map (·.1))[i]? = some y.1 := by rw [List.getElem?_map, hy]; rfl
  rw [h.lst] at h1
  have hgs : ∀ z ∈ L, W.ownsRow B 3 1 z.2 z.1.groups.length (z.1.groups.map (Value.int .i64)) := fun z hz => ownsRow_keep (h.gs z hz) fun j hj => hkeep j ((h.gs z hz).lt j hj).2 (fun e => (h.gx hz).2 lk rfl (by rw [← e]; exact hj)) (fun e => (h.gx hz).1 (by rw [← e]; exact hj))
  refine ⟨⟨hbox, hrow, ?_, h.ok.learn (h.mem hmem) hk hm ht1 ht2, fun z hz => ?_, h.lowX, h.g0⟩, ⟨hos, htp, hout, hsz, fun j hj hn => hkeep j hj (fun e => hn (.inr (by rw [e]; rfl))) (fun e => hn (.inl e)), fun j hj => .inl hj, fun j hj => .inl ?_⟩⟩
  · rw [List.map_set, h.lst]
    exact put_set h.ok.apart h1 k t
  · rcases List.mem_or_eq_of_mem_set hz with h2 | h2
    · exact hgs z h2
    · rw [h2]; exact hgs y hmem
  · rcases hj with h2 | ⟨z, hz, h2⟩
    · exact .inl h2
    · rcases List.mem_or_eq_of_mem_set hz with h3 | h3
      · exact .inr ⟨z, h3, h2⟩
      · rw [h3] at h2; exact .inr ⟨y, hmem, h2⟩
theorem RStep.after {w1 w2 : World} {L' : List RefO} {lv' : Value} (hb : Below w.heap.size w w1) (hs : RStep x w1 L lv w2 L' lv') : RStep x w L lv w2 L' lv' :=
  ⟨hs.os.trans hb.os, hs.tape.trans hb.tape, hs.output.trans hb.output, Nat.le_trans hb.size hs.size, fun k hk hn => by rw [hs.block k (Nat.lt_of_lt_of_le hk hb.size) hn, hb.block k hk], fun k hk => (hs.own k hk).imp id fun h => Nat.le_trans hb.size h, fun k hk => (hs.zone k hk).imp id fun h => Nat.le_trans hb.size h⟩
def RLF (W2 : World) (lk o x : Nat) (y : RefO) (lv c : Value) (W : World) : Prop := Below W2.heap.size W2 W ∧ CellsR lk o y W ∧ W.cell? ⟨x, 2, none⟩ = some lv ∧ W.cell? ⟨x, 1, none⟩ = some c ∧ x < W.heap.size
set_option maxHeartbeats 16000000 in
set_option maxRecDepth 1000000 in
theorem c41 (h : RefAt w x g S L lv B) (hl : L.length ≤ 1000) (id : IdD) (k t : Int) (ht0 : 0 ≤ t) :
    Calls Try.prog 41 #[.pointer (some ⟨x, 0, none⟩), .agg #[.int .i64 id.s, .int .i64 id.q], .int .i64 k, .int .u64 t] w (REnd x g B w L lv (.int .i64 (learnS g S id k t).1) (learnS g S id k t).2) := by
  refine gen (S := REnd x g B w L lv (.int .i64 (learnS g S id k t).1) (learnS g S id k t).2) fun R hR => ?_
  have hb0 : Below w.heap.size w (w.alloc (.cells #[.int .i64 id.s, .int .i64 id.q] 31)) := (Below.refl _ _).alloc (Nat.le_refl _) _
  have stay : ∀ e, learnS g S id k t = (e, S) → ∀ W, Below w.heap.size w W → R (.returned (.int .i64 e)) W := fun e hd W hb => hR _ _ (by rw [hd]; exact ⟨rfl, L, lv, h.below hb, RStep.of_below hb⟩)
  have STAY := Lib.hid stay
  have h42 := c42 (h.below hb0) hl id
  have H42 := Lib.hid h42
  obtain ⟨la, lc, rfl⟩ := owns_slice' h.row
  have H := Lib.hid h
  have HB0 := Lib.hid hb0
  have HR := Lib.hid hR
  have HT0 := Lib.hid ht0
  have EG4 : ∀ args w, (callFunc 44 args).run Try.prog w = .ok (.enter 44 args) w := enters_of Try.func44 (by kernel_rfl) rfl
  have EG5 : ∀ args w, (callFunc 45 args).run Try.prog w = .ok (.enter 45 args) w := enters_of Try.func45 (by kernel_rfl) rfl
  clear h hb0 h42 hR stay ht0
  go_enter Try.func41, Try.ntmps41
  go_upto_region 2 with (first | (go_at_call 42; refine H42.out.mono ?_; rintro e w2 ⟨n, rfl, hb2, hn⟩; have HN := Lib.hid hn; have HB2 := Lib.hid (HB0.out.trans (hb2.mono HB0.out.size)); clear hb2 hn; rcases HN.out with ⟨rfl, hno⟩ | ⟨i, y, rfl, hy, he⟩) | fail)
  · have hd : learnS g S id k t = (6, S) := by unfold learnS; rw [H.out.lost hno]
    have END := Lib.hid (STAY.out _ hd _ HB2.out)
    clear hno hd
    go_wp2
    go_tidy
    exact END.out
  · have hym := List.mem_of_getElem? hy
    have hf := H.out.found hy
    rw [he] at hf
    have hh := H.out.below HB2.out
    have hok := hh.okOf hym
    have hrow := (hh.gok hym).row
    have H38 := Lib.hid (c38 hrow k)
    have hil : i < L.length := (List.getElem?_eq_some_iff.1 hy).1
    obtain ⟨lk, lcap, hle, hlkl, hlcap⟩ := row_addr hh.row (by omega)
    cases hle
    have hiI : (i : Int) < (L.length : Int) := by omega
    have hi0 : ¬ (i : Int) < 0 := by omega
    obtain ⟨y0, y1, y2, y3, y4, y5, y6, yl⟩ := CellsR.of hh.row hy
    have x0 := hh.box.cell (j := 0) rfl
    have x2 := hh.box.cell (j := 2) rfl
    have xl := hh.box.lt
    have HY := Lib.hid (And.intro hy he)
    have HF := Lib.hid hf
    have HOK := Lib.hid hok
    have HH := Lib.hid hh
    have hbad : (k = g ∨ k ∉ y.1.groups ∨ t < 1 ∨ mostS < t) → R (.returned (.int .i64 1)) w2 := fun hb => STAY.out _ (by unfold learnS; rw [HF.out]; simp only; rw [if_pos hb]) _ HB2.out
    have BAD := Lib.hid hbad
    clear hy he hym hf hok hrow hbad HN hh
    by_cases h1 : k = g
    · have h1b : (k == g) = true := by simpa using h1
      have END := Lib.hid (BAD.out (.inl h1))
      clear h1
      go_wp2
      go_tidy
      exact END.out
    · have h1b : (k == g) = false := by simpa using h1
      have H1 := Lib.hid h1
      clear h1
      by_cases h2 : k ∈ y.1.groups
      · have h2b : decide (k ∈ y.1.groups) = true := decide_eq_true h2
        rw [h2b] at H38
        have H2 := Lib.hid h2
        clear h2 h2b
        by_cases h3 : t = 0
        · have END := Lib.hid (BAD.out (.inr (.inr (.inl (by omega)))))
          have h3b : (t == 0) = true := by simpa using h3
          clear h3
          go_wp2_with (first | (go_at_call 38; refine H38.out.mono ?_; rintro e w1 ⟨rfl, rfl⟩) | fail)
          go_tidy
          exact END.out
        · have h3b : (t == 0) = false := by simpa using h3
          by_cases h4 : 4611686018427387904 < t
          · have END := Lib.hid (BAD.out (.inr (.inr (.inr h4))))
            have h4b : decide (4611686018427387904 < t) = true := decide_eq_true h4
            clear h3
            go_wp2_with (first | (go_at_call 38; refine H38.out.mono ?_; rintro e w1 ⟨rfl, rfl⟩) | fail)
            go_tidy
            exact END.out
          · have h4b : decide (4611686018427387904 < t) = false := decide_eq_false h4
            have HT := Lib.hid (show 1 ≤ t ∧ t ≤ mostS from ⟨by have := HT0.out; omega, by unfold mostS; omega⟩)
            have hgood : ¬ (k = g ∨ k ∉ y.1.groups ∨ t < 1 ∨ mostS < t) := by
              have ht := HT.out
              rintro (h | h | h | h)
              · exact H1.out h
              · exact h H2.out
              · omega
              · omega
            have hk4 := HOK.out.range k H2.out
            have K4 := Lib.hid (show k = 0 ∨ k = 1 ∨ k = 2 ∨ k = 3 by omega)
            clear h3 h4 hk4
            by_cases h0 : y.1.kn k = 0
            · have hS : learnS g S id k t = (0, ⟨clockL g S (setKn y.1 k t), put S.L (setKn y.1 k t)⟩) := by unfold learnS; rw [HF.out]; simp only; rw [if_neg hgood, if_neg (by simpa using h0)]; rfl
              have hend : ∀ W (L' : List RefO) (lv' : Value), RefAt W x g ⟨clockL g S (setKn y.1 k t), put S.L (setKn y.1 k t)⟩ L' lv' B → RStep x w L (.slice (some ⟨lk, 0, none⟩) L.length lc) W L' lv' → R (.returned (.int .i64 0)) W := fun W L' lv' h1 h2 => HR.out _ _ (by rw [hS]; exact ⟨rfl, L', lv', h1, h2⟩)
              have END := Lib.hid hend
              have h0b : (y.1.kn k != 0) = false := by simpa using h0
              have lfr := HH.out.row.frozenAt
              clear hS hend h0 hgood
              rcases K4.out with rfl | rfl | rfl | rfl
              · go_upto_region 9 with (first | (go_at_call 38; refine H38.out.mono ?_; rintro e w1 ⟨rfl, rfl⟩) | fail)
                generalize hW2 : World.setCell _ _ _ = W2
                have ht1 := HH.out.told1 HY.out.1 (k := 0) (t := t) 0 rfl (by omega) (W := W2) (by rw [← hW2])
                have HT1 := Lib.hid ht1
                clear hW2 y0 y1 y2 y3 y4 y5 y6 yl x0 x2 xl lfr h3b h4b h0b ht1
                have hSI : ∀ W, Below W2.heap.size W2 W → RLF W2 lk (i * 7) x (setKn y.1 0 t, y.2) (.slice (some ⟨lk, 0, none⟩) L.length lc) (.int .u64 S.clock) W := fun W hb => by
                  have hy' : (L.set i (setKn y.1 0 t, y.2))[i]? = some (setKn y.1 0 t, y.2) := by rw [List.getElem?_set_self hil]
                  obtain ⟨r1, r2, -⟩ := HT1.out
                  have r1' := own_belowW r1 hb
                  rw [show Value.slice (some ⟨lk, 0, none⟩) L.length lc = Value.slice (some ⟨lk, 0, none⟩) (L.set i (setKn y.1 0 t, y.2)).length lc by rw [List.length_set]] at r1'
                  have r2' := r2.keep hb r2.lt
                  exact ⟨hb, CellsR.of r1' hy', r2'.cell (j := 2) rfl, r2'.cell (j := 1) rfl, r2'.lt⟩
                have h44 : ∀ W, RLF W2 lk (i * 7) x (setKn y.1 0 t, y.2) (.slice (some ⟨lk, 0, none⟩) L.length lc) (.int .u64 S.clock) W → Calls Try.prog 44 #[oneV (setKn y.1 0 t, y.2)] W fun e w' => e = .returned (.bool (final (setKn y.1 0 t))) ∧ RLF W2 lk (i * 7) x (setKn y.1 0 t, y.2) (.slice (some ⟨lk, 0, none⟩) L.length lc) (.int .u64 S.clock) w' := fun W hb => by
                  refine (c44 (HT1.out.2.2.2.2.2.2.2.below hb.1)).mono ?_
                  rintro e w' ⟨rfl, h2⟩
                  exact ⟨rfl, hSI w' (hb.1.trans (h2.mono hb.1.size))⟩
                have h45 : ∀ W, RLF W2 lk (i * 7) x (setKn y.1 0 t, y.2) (.slice (some ⟨lk, 0, none⟩) L.length lc) (.int .u64 S.clock) W → Calls Try.prog 45 #[.pointer (some ⟨x, 0, none⟩), oneV (setKn y.1 0 t, y.2)] W fun e w' => e = .returned (.int .u64 (stampS g (setKn y.1 0 t))) ∧ RLF W2 lk (i * 7) x (setKn y.1 0 t, y.2) (.slice (some ⟨lk, 0, none⟩) L.length lc) (.int .u64 S.clock) w' := fun W hb => by
                  refine (c45 (HT1.out.2.1.keep hb.1 HT1.out.2.1.lt) HH.out.g0 (HT1.out.2.2.2.2.2.2.2.below hb.1)).mono ?_
                  rintro e w' ⟨rfl, h2⟩
                  exact ⟨rfl, hSI w' (hb.1.trans (h2.mono hb.1.size))⟩
                have H44 := Lib.hid h44
                have H45 := Lib.hid h45
                have hS0 := hSI W2.drew (Below.refl _ _).drew
                have hex := Exists.intro _ hS0
                have HSI := Lib.hid hSI
                clear hSI h44 h45
                unfold oneV at H44 H45
                -- what is left at the end
                have hdone : ∀ W, Below W2.heap.size W2 W → clockL g S (setKn y.1 0 t) = S.clock → R (.returned (.int .i64 0)) W := fun W hb hc => by
                  obtain ⟨r1, r2, r3, r4, r5, r6, r7, -⟩ := HT1.out
                  have := HH.out.told HY.out.1 H1.out H2.out HT.out.1 HT.out.2 (W := W) (own_belowW r1 hb) (by rw [hc]; exact r2.keep hb r2.lt) (by rw [← r3]; exact hb.size) (fun j hj h1 _ => by rw [hb.block j (by omega), r4 j h1]) (hb.os.trans r5) (hb.tape.trans r6) (hb.output.trans r7)
                  exact END.out W _ _ this.1 (RStep.after HB2.out this.2)
                have HDONE := Lib.hid hdone
                clear hdone
                cases hfin : final (setKn y.1 0 t) with
                | false =>
                  have hcl : clockL g S (setKn y.1 0 t) = S.clock := by unfold clockL; rw [hfin]; rfl
                  rw [hfin] at H44
                  have HCL := Lib.hid hcl
                  clear hfin hcl
                  refine all_start (RLF W2 lk (i * 7) x (setKn y.1 0 t, y.2) (.slice (some ⟨lk, 0, none⟩) L.length lc) (.int .u64 S.clock)) 24 (by kernel_rfl) (hS0) ?_
                  show AllTill _ _ _ _ _ _ 24 (Array.replicate 24 false) _
                  refine all_take 0 (v := ?_) rfl (by kernel_rfl) (FlowsIf.read (by rfl) ?_) hex ?_
                  rotate_left
                  focus (intro w' hSw; obtain ⟨hb6, ⟨z0, z1, z2, z3, z4, z5, z6, zl⟩, hx2, hx1, hxl⟩ := hSw; go_simp; try (with_reducible rfl))
                  try simp only [Act.put, List.setIfInBounds_toArray, List.set_cons_zero, List.set_cons_succ]
                  refine all_take 1 (v := ?_) rfl (by kernel_rfl) (FlowsIf.read (by rfl) ?_) hex ?_
                  rotate_left
                  focus (intro w' hSw; obtain ⟨hb6, ⟨z0, z1, z2, z3, z4, z5, z6, zl⟩, hx2, hx1, hxl⟩ := hSw; go_simp; try (with_reducible rfl))
                  try simp only [Act.put, List.setIfInBounds_toArray, List.set_cons_zero, List.set_cons_succ]
                  refine all_take 2 (v := ?_) rfl (by kernel_rfl) (FlowsIf.read (by rfl) ?_) hex ?_
                  rotate_left
                  focus (intro w' hSw; obtain ⟨hb6, ⟨z0, z1, z2, z3, z4, z5, z6, zl⟩, hx2, hx1, hxl⟩ := hSw; go_simp; try (with_reducible rfl))
                  try simp only [Act.put, List.setIfInBounds_toArray, List.set_cons_zero, List.set_cons_succ]
                  refine all_take 3 (v := ?_) rfl (by kernel_rfl) (FlowsIf.read (by rfl) ?_) hex ?_
                  rotate_left
                  focus (intro w' hSw; obtain ⟨hb6, ⟨z0, z1, z2, z3, z4, z5, z6, zl⟩, hx2, hx1, hxl⟩ := hSw; go_simp; try (with_reducible rfl))
                  try simp only [Act.put, List.setIfInBounds_toArray, List.set_cons_zero, List.set_cons_succ]
                  refine all_take 4 (v := ?_) rfl (by kernel_rfl) (FlowsIf.read (by rfl) ?_) hex ?_
                  rotate_left
                  focus (intro w' hSw; obtain ⟨hb6, ⟨z0, z1, z2, z3, z4, z5, z6, zl⟩, hx2, hx1, hxl⟩ := hSw; go_simp; try (with_reducible rfl))
                  try simp only [Act.put, List.setIfInBounds_toArray, List.set_cons_zero, List.set_cons_succ]
                  refine all_take 5 (v := ?_) rfl (by kernel_rfl) (FlowsIf.read (by rfl) ?_) hex ?_
                  rotate_left
                  focus (intro w' hSw; obtain ⟨hb6, ⟨z0, z1, z2, z3, z4, z5, z6, zl⟩, hx2, hx1, hxl⟩ := hSw; go_simp; try (with_reducible rfl))
                  try simp only [Act.put, List.setIfInBounds_toArray, List.set_cons_zero, List.set_cons_succ]
                  refine all_take 6 (v := ?_) rfl (by kernel_rfl) (FlowsIf.read (by rfl) ?_) hex ?_
                  rotate_left
                  focus (intro w' hSw; obtain ⟨hb6, ⟨z0, z1, z2, z3, z4, z5, z6, zl⟩, hx2, hx1, hxl⟩ := hSw; go_simp; try (with_reducible rfl))
                  try simp only [Act.put, List.setIfInBounds_toArray, List.set_cons_zero, List.set_cons_succ]
                  refine all_take 7 (v := ?_) rfl (by kernel_rfl) (FlowsIf.call (f := 44) (args := ?_) (by rfl) ?_ ?_) hex ?_
                  rotate_left 2
                  focus (intro w'; go_simp; try (with_reducible rfl))
                  focus (exact H44.out)
                  try simp only [Act.put, List.setIfInBounds_toArray, List.set_cons_zero, List.set_cons_succ]
                  refine all_take 8 (v := ?_) rfl (by kernel_rfl) (FlowsIf.read (by rfl) ?_) hex ?_
                  rotate_left
                  focus (intro w' hSw; obtain ⟨hb6, ⟨z0, z1, z2, z3, z4, z5, z6, zl⟩, hx2, hx1, hxl⟩ := hSw; go_simp; try (with_reducible rfl))
                  try simp only [Act.put, List.setIfInBounds_toArray, List.set_cons_zero, List.set_cons_succ]
                  refine all_take 9 rfl (by kernel_rfl) (FlowsIf.skip (by rfl)) hex ?_
                  try simp only [Act.put, List.setIfInBounds_toArray, List.set_cons_zero, List.set_cons_succ]
                  refine all_take 10 rfl (by kernel_rfl) (FlowsIf.skip (by rfl)) hex ?_
                  try simp only [Act.put, List.setIfInBounds_toArray, List.set_cons_zero, List.set_cons_succ]
                  refine all_take 11 rfl (by kernel_rfl) (FlowsIf.skip (by rfl)) hex ?_
                  try simp only [Act.put, List.setIfInBounds_toArray, List.set_cons_zero, List.set_cons_succ]
                  refine all_take 12 rfl (by kernel_rfl) (FlowsIf.skip (by rfl)) hex ?_
                  try simp only [Act.put, List.setIfInBounds_toArray, List.set_cons_zero, List.set_cons_succ]
                  refine all_take 13 rfl (by kernel_rfl) (FlowsIf.skip (by rfl)) hex ?_
                  try simp only [Act.put, List.setIfInBounds_toArray, List.set_cons_zero, List.set_cons_succ]
                  refine all_take 14 rfl (by kernel_rfl) (FlowsIf.skip (by rfl)) hex ?_
                  try simp only [Act.put, List.setIfInBounds_toArray, List.set_cons_zero, List.set_cons_succ]
                  refine all_take 15 rfl (by kernel_rfl) (FlowsIf.skip (by rfl)) hex ?_
                  try simp only [Act.put, List.setIfInBounds_toArray, List.set_cons_zero, List.set_cons_succ]
                  refine all_take 16 rfl (by kernel_rfl) (FlowsIf.skip (by rfl)) hex ?_
                  try simp only [Act.put, List.setIfInBounds_toArray, List.set_cons_zero, List.set_cons_succ]
                  refine all_take 17 rfl (by kernel_rfl) (FlowsIf.skip (by rfl)) hex ?_
                  try simp only [Act.put, List.setIfInBounds_toArray, List.set_cons_zero, List.set_cons_succ]
                  refine all_take 18 rfl (by kernel_rfl) (FlowsIf.skip (by rfl)) hex ?_
                  try simp only [Act.put, List.setIfInBounds_toArray, List.set_cons_zero, List.set_cons_succ]
                  refine all_take 19 rfl (by kernel_rfl) (FlowsIf.skip (by rfl)) hex ?_
                  try simp only [Act.put, List.setIfInBounds_toArray, List.set_cons_zero, List.set_cons_succ]
                  refine all_take 20 rfl (by kernel_rfl) (FlowsIf.skip (by rfl)) hex ?_
                  try simp only [Act.put, List.setIfInBounds_toArray, List.set_cons_zero, List.set_cons_succ]
                  refine all_take 21 rfl (by kernel_rfl) (FlowsIf.skip (by rfl)) hex ?_
                  try simp only [Act.put, List.setIfInBounds_toArray, List.set_cons_zero, List.set_cons_succ]
                  refine all_take 22 rfl (by kernel_rfl) (FlowsIf.skip (by rfl)) hex ?_
                  try simp only [Act.put, List.setIfInBounds_toArray, List.set_cons_zero, List.set_cons_succ]
                  refine all_take 23 (v := ?_) rfl (by kernel_rfl) (FlowsIf.read (by rfl) ?_) hex ?_
                  rotate_left
                  focus (intro w' hSw; obtain ⟨hb6, ⟨z0, z1, z2, z3, z4, z5, z6, zl⟩, hx2, hx1, hxl⟩ := hSw; go_simp; try (with_reducible rfl))
                  try simp only [Act.put, List.setIfInBounds_toArray, List.set_cons_zero, List.set_cons_succ]
                  refine all_stop (by kernel_rfl) ?_
                  intro W3 hS3
                  refine till_done (by kernel_rfl) ?_
                  have HS3 := Lib.hid hS3
                  clear hS3
                  go_wp2
                  go_tidy
                  exact HDONE.out _ HS3.out.1 HCL.out
                | true =>
                  have hcl : clockL g S (setKn y.1 0 t) = max S.clock (stampS g (setKn y.1 0 t)) := by unfold clockL; rw [hfin]; rfl
                  rw [hfin] at H44
                  have HCL := Lib.hid hcl
                  obtain ⟨sv, hsv⟩ : ∃ sv, sv = stampS g (setKn y.1 0 t) := ⟨_, rfl⟩
                  rw [← hsv] at H45
                  have HSV := Lib.hid hsv
                  clear hfin hcl hsv
                  by_cases hgt : S.clock < sv
                  · have hgtb : decide (S.clock < sv) = true := decide_eq_true hgt
                    refine all_start (RLF W2 lk (i * 7) x (setKn y.1 0 t, y.2) (.slice (some ⟨lk, 0, none⟩) L.length lc) (.int .u64 S.clock)) 24 (by kernel_rfl) (hS0) ?_
                    show AllTill _ _ _ _ _ _ 24 (Array.replicate 24 false) _
                    refine all_take 0 (v := ?_) rfl (by kernel_rfl) (FlowsIf.read (by rfl) ?_) hex ?_
                    rotate_left
                    focus (intro w' hSw; obtain ⟨hb6, ⟨z0, z1, z2, z3, z4, z5, z6, zl⟩, hx2, hx1, hxl⟩ := hSw; go_simp; try (with_reducible rfl))
                    try simp only [Act.put, List.setIfInBounds_toArray, List.set_cons_zero, List.set_cons_succ]
                    refine all_take 1 (v := ?_) rfl (by kernel_rfl) (FlowsIf.read (by rfl) ?_) hex ?_
                    rotate_left
                    focus (intro w' hSw; obtain ⟨hb6, ⟨z0, z1, z2, z3, z4, z5, z6, zl⟩, hx2, hx1, hxl⟩ := hSw; go_simp; try (with_reducible rfl))
                    try simp only [Act.put, List.setIfInBounds_toArray, List.set_cons_zero, List.set_cons_succ]
                    refine all_take 2 (v := ?_) rfl (by kernel_rfl) (FlowsIf.read (by rfl) ?_) hex ?_
                    rotate_left
                    focus (intro w' hSw; obtain ⟨hb6, ⟨z0, z1, z2, z3, z4, z5, z6, zl⟩, hx2, hx1, hxl⟩ := hSw; go_simp; try (with_reducible rfl))
                    try simp only [Act.put, List.setIfInBounds_toArray, List.set_cons_zero, List.set_cons_succ]
                    refine all_take 3 (v := ?_) rfl (by kernel_rfl) (FlowsIf.read (by rfl) ?_) hex ?_
                    rotate_left
                    focus (intro w' hSw; obtain ⟨hb6, ⟨z0, z1, z2, z3, z4, z5, z6, zl⟩, hx2, hx1, hxl⟩ := hSw; go_simp; try (with_reducible rfl))
                    try simp only [Act.put, List.setIfInBounds_toArray, List.set_cons_zero, List.set_cons_succ]
                    refine all_take 4 (v := ?_) rfl (by kernel_rfl) (FlowsIf.read (by rfl) ?_) hex ?_
                    rotate_left
                    focus (intro w' hSw; obtain ⟨hb6, ⟨z0, z1, z2, z3, z4, z5, z6, zl⟩, hx2, hx1, hxl⟩ := hSw; go_simp; try (with_reducible rfl))
                    try simp only [Act.put, List.setIfInBounds_toArray, List.set_cons_zero, List.set_cons_succ]
                    refine all_take 5 (v := ?_) rfl (by kernel_rfl) (FlowsIf.read (by rfl) ?_) hex ?_
                    rotate_left
                    focus (intro w' hSw; obtain ⟨hb6, ⟨z0, z1, z2, z3, z4, z5, z6, zl⟩, hx2, hx1, hxl⟩ := hSw; go_simp; try (with_reducible rfl))
                    try simp only [Act.put, List.setIfInBounds_toArray, List.set_cons_zero, List.set_cons_succ]
                    refine all_take 6 (v := ?_) rfl (by kernel_rfl) (FlowsIf.read (by rfl) ?_) hex ?_
                    rotate_left
                    focus (intro w' hSw; obtain ⟨hb6, ⟨z0, z1, z2, z3, z4, z5, z6, zl⟩, hx2, hx1, hxl⟩ := hSw; go_simp; try (with_reducible rfl))
                    try simp only [Act.put, List.setIfInBounds_toArray, List.set_cons_zero, List.set_cons_succ]
                    refine all_take 7 (v := ?_) rfl (by kernel_rfl) (FlowsIf.call (f := 44) (args := ?_) (by rfl) ?_ ?_) hex ?_
                    rotate_left 2
                    focus (intro w'; go_simp; try (with_reducible rfl))
                    focus (exact H44.out)
                    try simp only [Act.put, List.setIfInBounds_toArray, List.set_cons_zero, List.set_cons_succ]
                    refine all_take 8 (v := ?_) rfl (by kernel_rfl) (FlowsIf.read (by rfl) ?_) hex ?_
                    rotate_left
                    focus (intro w' hSw; obtain ⟨hb6, ⟨z0, z1, z2, z3, z4, z5, z6, zl⟩, hx2, hx1, hxl⟩ := hSw; go_simp; try (with_reducible rfl))
                    try simp only [Act.put, List.setIfInBounds_toArray, List.set_cons_zero, List.set_cons_succ]
                    refine all_take 9 (v := ?_) rfl (by kernel_rfl) (FlowsIf.read (by rfl) ?_) hex ?_
                    rotate_left
                    focus (intro w' hSw; obtain ⟨hb6, ⟨z0, z1, z2, z3, z4, z5, z6, zl⟩, hx2, hx1, hxl⟩ := hSw; go_simp; try (with_reducible rfl))
                    try simp only [Act.put, List.setIfInBounds_toArray, List.set_cons_zero, List.set_cons_succ]
                    refine all_take 10 (v := ?_) rfl (by kernel_rfl) (FlowsIf.read (by rfl) ?_) hex ?_
                    rotate_left
                    focus (intro w' hSw; obtain ⟨hb6, ⟨z0, z1, z2, z3, z4, z5, z6, zl⟩, hx2, hx1, hxl⟩ := hSw; go_simp; try (with_reducible rfl))
                    try simp only [Act.put, List.setIfInBounds_toArray, List.set_cons_zero, List.set_cons_succ]
                    refine all_take 11 (v := ?_) rfl (by kernel_rfl) (FlowsIf.read (by rfl) ?_) hex ?_
                    rotate_left
                    focus (intro w' hSw; obtain ⟨hb6, ⟨z0, z1, z2, z3, z4, z5, z6, zl⟩, hx2, hx1, hxl⟩ := hSw; go_simp; try (with_reducible rfl))
                    try simp only [Act.put, List.setIfInBounds_toArray, List.set_cons_zero, List.set_cons_succ]
                    refine all_take 12 (v := ?_) rfl (by kernel_rfl) (FlowsIf.read (by rfl) ?_) hex ?_
                    rotate_left
                    focus (intro w' hSw; obtain ⟨hb6, ⟨z0, z1, z2, z3, z4, z5, z6, zl⟩, hx2, hx1, hxl⟩ := hSw; go_simp; try (with_reducible rfl))
                    try simp only [Act.put, List.setIfInBounds_toArray, List.set_cons_zero, List.set_cons_succ]
                    refine all_take 13 (v := ?_) rfl (by kernel_rfl) (FlowsIf.read (by rfl) ?_) hex ?_
                    rotate_left
                    focus (intro w' hSw; obtain ⟨hb6, ⟨z0, z1, z2, z3, z4, z5, z6, zl⟩, hx2, hx1, hxl⟩ := hSw; go_simp; try (with_reducible rfl))
                    try simp only [Act.put, List.setIfInBounds_toArray, List.set_cons_zero, List.set_cons_succ]
                    refine all_take 14 (v := ?_) rfl (by kernel_rfl) (FlowsIf.read (by rfl) ?_) hex ?_
                    rotate_left
                    focus (intro w' hSw; obtain ⟨hb6, ⟨z0, z1, z2, z3, z4, z5, z6, zl⟩, hx2, hx1, hxl⟩ := hSw; go_simp; try (with_reducible rfl))
                    try simp only [Act.put, List.setIfInBounds_toArray, List.set_cons_zero, List.set_cons_succ]
                    refine all_take 15 (v := ?_) rfl (by kernel_rfl) (FlowsIf.read (by rfl) ?_) hex ?_
                    rotate_left
                    focus (intro w' hSw; obtain ⟨hb6, ⟨z0, z1, z2, z3, z4, z5, z6, zl⟩, hx2, hx1, hxl⟩ := hSw; go_simp; try (with_reducible rfl))
                    try simp only [Act.put, List.setIfInBounds_toArray, List.set_cons_zero, List.set_cons_succ]
                    refine all_take 16 (v := ?_) rfl (by kernel_rfl) (FlowsIf.read (by rfl) ?_) hex ?_
                    rotate_left
                    focus (intro w' hSw; obtain ⟨hb6, ⟨z0, z1, z2, z3, z4, z5, z6, zl⟩, hx2, hx1, hxl⟩ := hSw; go_simp; try (with_reducible rfl))
                    try simp only [Act.put, List.setIfInBounds_toArray, List.set_cons_zero, List.set_cons_succ]
                    refine all_take 17 (v := ?_) rfl (by kernel_rfl) (FlowsIf.call (f := 45) (args := ?_) (by rfl) ?_ ?_) hex ?_
                    rotate_left 2
                    focus (intro w'; go_simp; try (with_reducible rfl))
                    focus (exact H45.out)
                    try simp only [Act.put, List.setIfInBounds_toArray, List.set_cons_zero, List.set_cons_succ]
                    refine all_take 18 (v := ?_) rfl (by kernel_rfl) (FlowsIf.read (by rfl) ?_) hex ?_
                    rotate_left
                    focus (intro w' hSw; obtain ⟨hb6, ⟨z0, z1, z2, z3, z4, z5, z6, zl⟩, hx2, hx1, hxl⟩ := hSw; go_simp; try (with_reducible rfl))
                    try simp only [Act.put, List.setIfInBounds_toArray, List.set_cons_zero, List.set_cons_succ]
                    refine all_take 19 (v := ?_) rfl (by kernel_rfl) (FlowsIf.read (by rfl) ?_) hex ?_
                    rotate_left
                    focus (intro w' hSw; obtain ⟨hb6, ⟨z0, z1, z2, z3, z4, z5, z6, zl⟩, hx2, hx1, hxl⟩ := hSw; go_simp; try (with_reducible rfl))
                    try simp only [Act.put, List.setIfInBounds_toArray, List.set_cons_zero, List.set_cons_succ]
                    refine all_take 20 (v := ?_) rfl (by kernel_rfl) (FlowsIf.read (by rfl) ?_) hex ?_
                    rotate_left
                    focus (intro w' hSw; obtain ⟨hb6, ⟨z0, z1, z2, z3, z4, z5, z6, zl⟩, hx2, hx1, hxl⟩ := hSw; go_simp; try (with_reducible rfl))
                    try simp only [Act.put, List.setIfInBounds_toArray, List.set_cons_zero, List.set_cons_succ]
                    refine all_take 21 (v := ?_) rfl (by kernel_rfl) (FlowsIf.read (by rfl) ?_) hex ?_
                    rotate_left
                    focus (intro w' hSw; obtain ⟨hb6, ⟨z0, z1, z2, z3, z4, z5, z6, zl⟩, hx2, hx1, hxl⟩ := hSw; go_simp; try (with_reducible rfl))
                    try simp only [Act.put, List.setIfInBounds_toArray, List.set_cons_zero, List.set_cons_succ]
                    refine all_take 22 (v := ?_) rfl (by kernel_rfl) (FlowsIf.read (by rfl) ?_) hex ?_
                    rotate_left
                    focus (intro w' hSw; obtain ⟨hb6, ⟨z0, z1, z2, z3, z4, z5, z6, zl⟩, hx2, hx1, hxl⟩ := hSw; go_simp; try (with_reducible rfl))
                    try simp only [Act.put, List.setIfInBounds_toArray, List.set_cons_zero, List.set_cons_succ]
                    refine all_take 23 (v := ?_) rfl (by kernel_rfl) (FlowsIf.read (by rfl) ?_) hex ?_
                    rotate_left
                    focus (intro w' hSw; obtain ⟨hb6, ⟨z0, z1, z2, z3, z4, z5, z6, zl⟩, hx2, hx1, hxl⟩ := hSw; go_simp; try (with_reducible rfl))
                    try simp only [Act.put, List.setIfInBounds_toArray, List.set_cons_zero, List.set_cons_succ]
                    refine all_stop (by kernel_rfl) ?_
                    intro W3 hS3
                    refine till_done (by kernel_rfl) ?_
                    have HS3 := Lib.hid hS3
                    clear hS3
                    obtain ⟨hb6, ⟨z0, z1, z2, z3, z4, z5, z6, zl⟩, hx2, hx1, hxl⟩ := HS3.out
                    go_wp2_with (first | (go_at_call 45; refine (H45.out _ HS3.out).mono ?_; rintro e W4 ⟨rfl, hS4⟩; have HS4 := Lib.hid hS4; obtain ⟨hb64, -, -, hx14, hxl4⟩ := hS4; have hxf4 := (HT1.out.2.1.keep hb64 HT1.out.2.1.lt).free 1; clear hb64) | fail)
                    go_tidy
                    have hb6 := HS4.out.1
                    obtain ⟨r1, r2, r3, r4, r5, r6, r7, -⟩ := HT1.out
                    have ks : ∀ j, j ≠ x → (W4.setCell ⟨x, 1, none⟩ (.int .u64 sv)).heap[j]? = W4.heap[j]? := fun j hj => Below.heap_setCell _ _ _ j (by simpa using hj)
                    have := HH.out.told HY.out.1 H1.out H2.out HT.out.1 HT.out.2 (W := W4.setCell ⟨x, 1, none⟩ (.int .u64 sv))
                      (ownsRow_keep (own_belowW r1 hb6) fun j hj => ks j fun e => HH.out.lx (by rw [← e]; exact hj))
                      (by rw [HCL.out, ← HSV.out, show max S.clock sv = sv by omega]; exact (r2.keep hb6 r2.lt).set 1 _)
                      (by rw [← r3]; simpa using hb6.size) (fun j hj h1 h2 => by rw [ks j h2, hb6.block j (by omega), r4 j h1]) (hb6.os.trans r5) (hb6.tape.trans r6) (hb6.output.trans r7)
                    exact END.out _ _ _ this.1 (RStep.after HB2.out this.2)
                  · have hgtb : decide (S.clock < sv) = false := decide_eq_false hgt
                    refine all_start (RLF W2 lk (i * 7) x (setKn y.1 0 t, y.2) (.slice (some ⟨lk, 0, none⟩) L.length lc) (.int .u64 S.clock)) 24 (by kernel_rfl) (hS0) ?_
                    show AllTill _ _ _ _ _ _ 24 (Array.replicate 24 false) _
                    refine all_take 0 (v := ?_) rfl (by kernel_rfl) (FlowsIf.read (by rfl) ?_) hex ?_
                    rotate_left
                    focus (intro w' hSw; obtain ⟨hb6, ⟨z0, z1, z2, z3, z4, z5, z6, zl⟩, hx2, hx1, hxl⟩ := hSw; go_simp; try (with_reducible rfl))
                    try simp only [Act.put, List.setIfInBounds_toArray, List.set_cons_zero, List.set_cons_succ]
                    refine all_take 1 (v := ?_) rfl (by kernel_rfl) (FlowsIf.read (by rfl) ?_) hex ?_
                    rotate_left
                    focus (intro w' hSw; obtain ⟨hb6, ⟨z0, z1, z2, z3, z4, z5, z6, zl⟩, hx2, hx1, hxl⟩ := hSw; go_simp; try (with_reducible rfl))
                    try simp only [Act.put, List.setIfInBounds_toArray, List.set_cons_zero, List.set_cons_succ]
                    refine all_take 2 (v := ?_) rfl (by kernel_rfl) (FlowsIf.read (by rfl) ?_) hex ?_
                    rotate_left
                    focus (intro w' hSw; obtain ⟨hb6, ⟨z0, z1, z2, z3, z4, z5, z6, zl⟩, hx2, hx1, hxl⟩ := hSw; go_simp; try (with_reducible rfl))
                    try simp only [Act.put, List.setIfInBounds_toArray, List.set_cons_zero, List.set_cons_succ]
                    refine all_take 3 (v := ?_) rfl (by kernel_rfl) (FlowsIf.read (by rfl) ?_) hex ?_
                    rotate_left
                    focus (intro w' hSw; obtain ⟨hb6, ⟨z0, z1, z2, z3, z4, z5, z6, zl⟩, hx2, hx1, hxl⟩ := hSw; go_simp; try (with_reducible rfl))
                    try simp only [Act.put, List.setIfInBounds_toArray, List.set_cons_zero, List.set_cons_succ]
                    refine all_take 4 (v := ?_) rfl (by kernel_rfl) (FlowsIf.read (by rfl) ?_) hex ?_
                    rotate_left
                    focus (intro w' hSw; obtain ⟨hb6, ⟨z0, z1, z2, z3, z4, z5, z6, zl⟩, hx2, hx1, hxl⟩ := hSw; go_simp; try (with_reducible rfl))
                    try simp only [Act.put, List.setIfInBounds_toArray, List.set_cons_zero, List.set_cons_succ]
                    refine all_take 5 (v := ?_) rfl (by kernel_rfl) (FlowsIf.read (by rfl) ?_) hex ?_
                    rotate_left
                    focus (intro w' hSw; obtain ⟨hb6, ⟨z0, z1, z2, z3, z4, z5, z6, zl⟩, hx2, hx1, hxl⟩ := hSw; go_simp; try (with_reducible rfl))
                    try simp only [Act.put, List.setIfInBounds_toArray, List.set_cons_zero, List.set_cons_succ]
                    refine all_take 6 (v := ?_) rfl (by kernel_rfl) (FlowsIf.read (by rfl) ?_) hex ?_
                    rotate_left
                    focus (intro w' hSw; obtain ⟨hb6, ⟨z0, z1, z2, z3, z4, z5, z6, zl⟩, hx2, hx1, hxl⟩ := hSw; go_simp; try (with_reducible rfl))
                    try simp only [Act.put, List.setIfInBounds_toArray, List.set_cons_zero, List.set_cons_succ]
                    refine all_take 7 (v := ?_) rfl (by kernel_rfl) (FlowsIf.call (f := 44) (args := ?_) (by rfl) ?_ ?_) hex ?_
                    rotate_left 2
                    focus (intro w'; go_simp; try (with_reducible rfl))
                    focus (exact H44.out)
                    try simp only [Act.put, List.setIfInBounds_toArray, List.set_cons_zero, List.set_cons_succ]
                    refine all_take 8 (v := ?_) rfl (by kernel_rfl) (FlowsIf.read (by rfl) ?_) hex ?_
                    rotate_left
                    focus (intro w' hSw; obtain ⟨hb6, ⟨z0, z1, z2, z3, z4, z5, z6, zl⟩, hx2, hx1, hxl⟩ := hSw; go_simp; try (with_reducible rfl))
                    try simp only [Act.put, List.setIfInBounds_toArray, List.set_cons_zero, List.set_cons_succ]
                    refine all_take 9 (v := ?_) rfl (by kernel_rfl) (FlowsIf.read (by rfl) ?_) hex ?_
                    rotate_left
                    focus (intro w' hSw; obtain ⟨hb6, ⟨z0, z1, z2, z3, z4, z5, z6, zl⟩, hx2, hx1, hxl⟩ := hSw; go_simp; try (with_reducible rfl))
                    try simp only [Act.put, List.setIfInBounds_toArray, List.set_cons_zero, List.set_cons_succ]
                    refine all_take 10 (v := ?_) rfl (by kernel_rfl) (FlowsIf.read (by rfl) ?_) hex ?_
                    rotate_left
                    focus (intro w' hSw; obtain ⟨hb6, ⟨z0, z1, z2, z3, z4, z5, z6, zl⟩, hx2, hx1, hxl⟩ := hSw; go_simp; try (with_reducible rfl))
                    try simp only [Act.put, List.setIfInBounds_toArray, List.set_cons_zero, List.set_cons_succ]
                    refine all_take 11 (v := ?_) rfl (by kernel_rfl) (FlowsIf.read (by rfl) ?_) hex ?_
                    rotate_left
                    focus (intro w' hSw; obtain ⟨hb6, ⟨z0, z1, z2, z3, z4, z5, z6, zl⟩, hx2, hx1, hxl⟩ := hSw; go_simp; try (with_reducible rfl))
                    try simp only [Act.put, List.setIfInBounds_toArray, List.set_cons_zero, List.set_cons_succ]
                    refine all_take 12 (v := ?_) rfl (by kernel_rfl) (FlowsIf.read (by rfl) ?_) hex ?_
                    rotate_left
                    focus (intro w' hSw; obtain ⟨hb6, ⟨z0, z1, z2, z3, z4, z5, z6, zl⟩, hx2, hx1, hxl⟩ := hSw; go_simp; try (with_reducible rfl))
                    try simp only [Act.put, List.setIfInBounds_toArray, List.set_cons_zero, List.set_cons_succ]
                    refine all_take 13 (v := ?_) rfl (by kernel_rfl) (FlowsIf.read (by rfl) ?_) hex ?_
                    rotate_left
                    focus (intro w' hSw; obtain ⟨hb6, ⟨z0, z1, z2, z3, z4, z5, z6, zl⟩, hx2, hx1, hxl⟩ := hSw; go_simp; try (with_reducible rfl))
                    try simp only [Act.put, List.setIfInBounds_toArray, List.set_cons_zero, List.set_cons_succ]
                    refine all_take 14 (v := ?_) rfl (by kernel_rfl) (FlowsIf.read (by rfl) ?_) hex ?_
                    rotate_left
                    focus (intro w' hSw; obtain ⟨hb6, ⟨z0, z1, z2, z3, z4, z5, z6, zl⟩, hx2, hx1, hxl⟩ := hSw; go_simp; try (with_reducible rfl))
                    try simp only [Act.put, List.setIfInBounds_toArray, List.set_cons_zero, List.set_cons_succ]
                    refine all_take 15 (v := ?_) rfl (by kernel_rfl) (FlowsIf.read (by rfl) ?_) hex ?_
                    rotate_left
                    focus (intro w' hSw; obtain ⟨hb6, ⟨z0, z1, z2, z3, z4, z5, z6, zl⟩, hx2, hx1, hxl⟩ := hSw; go_simp; try (with_reducible rfl))
                    try simp only [Act.put, List.setIfInBounds_toArray, List.set_cons_zero, List.set_cons_succ]
                    refine all_take 16 (v := ?_) rfl (by kernel_rfl) (FlowsIf.read (by rfl) ?_) hex ?_
                    rotate_left
                    focus (intro w' hSw; obtain ⟨hb6, ⟨z0, z1, z2, z3, z4, z5, z6, zl⟩, hx2, hx1, hxl⟩ := hSw; go_simp; try (with_reducible rfl))
                    try simp only [Act.put, List.setIfInBounds_toArray, List.set_cons_zero, List.set_cons_succ]
                    refine all_take 17 (v := ?_) rfl (by kernel_rfl) (FlowsIf.call (f := 45) (args := ?_) (by rfl) ?_ ?_) hex ?_
                    rotate_left 2
                    focus (intro w'; go_simp; try (with_reducible rfl))
                    focus (exact H45.out)
                    try simp only [Act.put, List.setIfInBounds_toArray, List.set_cons_zero, List.set_cons_succ]
                    refine all_take 18 (v := ?_) rfl (by kernel_rfl) (FlowsIf.read (by rfl) ?_) hex ?_
                    rotate_left
                    focus (intro w' hSw; obtain ⟨hb6, ⟨z0, z1, z2, z3, z4, z5, z6, zl⟩, hx2, hx1, hxl⟩ := hSw; go_simp; try (with_reducible rfl))
                    try simp only [Act.put, List.setIfInBounds_toArray, List.set_cons_zero, List.set_cons_succ]
                    refine all_take 19 (v := ?_) rfl (by kernel_rfl) (FlowsIf.read (by rfl) ?_) hex ?_
                    rotate_left
                    focus (intro w' hSw; obtain ⟨hb6, ⟨z0, z1, z2, z3, z4, z5, z6, zl⟩, hx2, hx1, hxl⟩ := hSw; go_simp; try (with_reducible rfl))
                    try simp only [Act.put, List.setIfInBounds_toArray, List.set_cons_zero, List.set_cons_succ]
                    refine all_take 20 (v := ?_) rfl (by kernel_rfl) (FlowsIf.read (by rfl) ?_) hex ?_
                    rotate_left
                    focus (intro w' hSw; obtain ⟨hb6, ⟨z0, z1, z2, z3, z4, z5, z6, zl⟩, hx2, hx1, hxl⟩ := hSw; go_simp; try (with_reducible rfl))
                    try simp only [Act.put, List.setIfInBounds_toArray, List.set_cons_zero, List.set_cons_succ]
                    refine all_take 21 (v := ?_) rfl (by kernel_rfl) (FlowsIf.read (by rfl) ?_) hex ?_
                    rotate_left
                    focus (intro w' hSw; obtain ⟨hb6, ⟨z0, z1, z2, z3, z4, z5, z6, zl⟩, hx2, hx1, hxl⟩ := hSw; go_simp; try (with_reducible rfl))
                    try simp only [Act.put, List.setIfInBounds_toArray, List.set_cons_zero, List.set_cons_succ]
                    refine all_take 22 (v := ?_) rfl (by kernel_rfl) (FlowsIf.read (by rfl) ?_) hex ?_
                    rotate_left
                    focus (intro w' hSw; obtain ⟨hb6, ⟨z0, z1, z2, z3, z4, z5, z6, zl⟩, hx2, hx1, hxl⟩ := hSw; go_simp; try (with_reducible rfl))
                    try simp only [Act.put, List.setIfInBounds_toArray, List.set_cons_zero, List.set_cons_succ]
                    refine all_take 23 (v := ?_) rfl (by kernel_rfl) (FlowsIf.read (by rfl) ?_) hex ?_
                    rotate_left
                    focus (intro w' hSw; obtain ⟨hb6, ⟨z0, z1, z2, z3, z4, z5, z6, zl⟩, hx2, hx1, hxl⟩ := hSw; go_simp; try (with_reducible rfl))
                    try simp only [Act.put, List.setIfInBounds_toArray, List.set_cons_zero, List.set_cons_succ]
                    refine all_stop (by kernel_rfl) ?_
                    intro W3 hS3
                    refine till_done (by kernel_rfl) ?_
                    have HS3 := Lib.hid hS3
                    clear hS3
                    go_wp2
                    go_tidy
                    exact HDONE.out _ HS3.out.1 (by rw [HCL.out, ← HSV.out]; omega)
              · go_upto_region 9 with (first | (go_at_call 38; refine H38.out.mono ?_; rintro e w1 ⟨rfl, rfl⟩) | fail)
                generalize hW2 : World.setCell _ _ _ = W2
                have ht1 := HH.out.told1 HY.out.1 (k := 1) (t := t) 1 rfl (by omega) (W := W2) (by rw [← hW2])
                have HT1 := Lib.hid ht1
                clear hW2 y0 y1 y2 y3 y4 y5 y6 yl x0 x2 xl lfr h3b h4b h0b ht1
                have hSI : ∀ W, Below W2.heap.size W2 W → RLF W2 lk (i * 7) x (setKn y.1 1 t, y.2) (.slice (some ⟨lk, 0, none⟩) L.length lc) (.int .u64 S.clock) W := fun W hb => by
                  have hy' : (L.set i (setKn y.1 1 t, y.2))[i]? = some (setKn y.1 1 t, y.2) := by rw [List.getElem?_set_self hil]
                  obtain ⟨r1, r2, -⟩ := HT1.out
                  have r1' := own_belowW r1 hb
                  rw [show Value.slice (some ⟨lk, 0, none⟩) L.length lc = Value.slice (some ⟨lk, 0, none⟩) (L.set i (setKn y.1 1 t, y.2)).length lc by rw [List.length_set]] at r1'
                  have r2' := r2.keep hb r2.lt
                  exact ⟨hb, CellsR.of r1' hy', r2'.cell (j := 2) rfl, r2'.cell (j := 1) rfl, r2'.lt⟩
                have h44 : ∀ W, RLF W2 lk (i * 7) x (setKn y.1 1 t, y.2) (.slice (some ⟨lk, 0, none⟩) L.length lc) (.int .u64 S.clock) W → Calls Try.prog 44 #[oneV (setKn y.1 1 t, y.2)] W fun e w' => e = .returned (.bool (final (setKn y.1 1 t))) ∧ RLF W2 lk (i * 7) x (setKn y.1 1 t, y.2) (.slice (some ⟨lk, 0, none⟩) L.length lc) (.int .u64 S.clock) w' := fun W hb => by
                  refine (c44 (HT1.out.2.2.2.2.2.2.2.below hb.1)).mono ?_
                  rintro e w' ⟨rfl, h2⟩
                  exact ⟨rfl, hSI w' (hb.1.trans (h2.mono hb.1.size))⟩
                have h45 : ∀ W, RLF W2 lk (i * 7) x (setKn y.1 1 t, y.2) (.slice (some ⟨lk, 0, none⟩) L.length lc) (.int .u64 S.clock) W → Calls Try.prog 45 #[.pointer (some ⟨x, 0, none⟩), oneV (setKn y.1 1 t, y.2)] W fun e w' => e = .returned (.int .u64 (stampS g (setKn y.1 1 t))) ∧ RLF W2 lk (i * 7) x (setKn y.1 1 t, y.2) (.slice (some ⟨lk, 0, none⟩) L.length lc) (.int .u64 S.clock) w' := fun W hb => by
                  refine (c45 (HT1.out.2.1.keep hb.1 HT1.out.2.1.lt) HH.out.g0 (HT1.out.2.2.2.2.2.2.2.below hb.1)).mono ?_
                  rintro e w' ⟨rfl, h2⟩
                  exact ⟨rfl, hSI w' (hb.1.trans (h2.mono hb.1.size))⟩
                have H44 := Lib.hid h44
                have H45 := Lib.hid h45
                have hS0 := hSI W2.drew (Below.refl _ _).drew
                have hex := Exists.intro _ hS0
                have HSI := Lib.hid hSI
                clear hSI h44 h45
                unfold oneV at H44 H45
                -- what is left at the end
                have hdone : ∀ W, Below W2.heap.size W2 W → clockL g S (setKn y.1 1 t) = S.clock → R (.returned (.int .i64 0)) W := fun W hb hc => by
                  obtain ⟨r1, r2, r3, r4, r5, r6, r7, -⟩ := HT1.out
                  have := HH.out.told HY.out.1 H1.out H2.out HT.out.1 HT.out.2 (W := W) (own_belowW r1 hb) (by rw [hc]; exact r2.keep hb r2.lt) (by rw [← r3]; exact hb.size) (fun j hj h1 _ => by rw [hb.block j (by omega), r4 j h1]) (hb.os.trans r5) (hb.tape.trans r6) (hb.output.trans r7)
                  exact END.out W _ _ this.1 (RStep.after HB2.out this.2)
                have HDONE := Lib.hid hdone
                clear hdone
                cases hfin : final (setKn y.1 1 t) with
                | false =>
                  have hcl : clockL g S (setKn y.1 1 t) = S.clock := by unfold clockL; rw [hfin]; rfl
                  rw [hfin] at H44
                  have HCL := Lib.hid hcl
                  clear hfin hcl
                  refine all_start (RLF W2 lk (i * 7) x (setKn y.1 1 t, y.2) (.slice (some ⟨lk, 0, none⟩) L.length lc) (.int .u64 S.clock)) 24 (by kernel_rfl) (hS0) ?_
                  show AllTill _ _ _ _ _ _ 24 (Array.replicate 24 false) _
                  refine all_take 0 (v := ?_) rfl (by kernel_rfl) (FlowsIf.read (by rfl) ?_) hex ?_
                  rotate_left
                  focus (intro w' hSw; obtain ⟨hb6, ⟨z0, z1, z2, z3, z4, z5, z6, zl⟩, hx2, hx1, hxl⟩ := hSw; go_simp; try (with_reducible rfl))
                  try simp only [Act.put, List.setIfInBounds_toArray, List.set_cons_zero, List.set_cons_succ]
                  refine all_take 1 (v := ?_) rfl (by kernel_rfl) (FlowsIf.read (by rfl) ?_) hex ?_
                  rotate_left
                  focus (intro w' hSw; obtain ⟨hb6, ⟨z0, z1, z2, z3, z4, z5, z6, zl⟩, hx2, hx1, hxl⟩ := hSw; go_simp; try (with_reducible rfl))
                  try simp only [Act.put, List.setIfInBounds_toArray, List.set_cons_zero, List.set_cons_succ]
                  refine all_take 2 (v := ?_) rfl (by kernel_rfl) (FlowsIf.read (by rfl) ?_) hex ?_
                  rotate_left
                  focus (intro w' hSw; obtain ⟨hb6, ⟨z0, z1, z2, z3, z4, z5, z6, zl⟩, hx2, hx1, hxl⟩ := hSw; go_simp; try (with_reducible rfl))
                  try simp only [Act.put, List.setIfInBounds_toArray, List.set_cons_zero, List.set_cons_succ]
                  refine all_take 3 (v := ?_) rfl (by kernel_rfl) (FlowsIf.read (by rfl) ?_) hex ?_
                  rotate_left
                  focus (intro w' hSw; obtain ⟨hb6, ⟨z0, z1, z2, z3, z4, z5, z6, zl⟩, hx2, hx1, hxl⟩ := hSw; go_simp; try (with_reducible rfl))
                  try simp only [Act.put, List.setIfInBounds_toArray, List.set_cons_zero, List.set_cons_succ]
                  refine all_take 4 (v := ?_) rfl (by kernel_rfl) (FlowsIf.read (by rfl) ?_) hex ?_
                  rotate_left
                  focus (intro w' hSw; obtain ⟨hb6, ⟨z0, z1, z2, z3, z4, z5, z6, zl⟩, hx2, hx1, hxl⟩ := hSw; go_simp; try (with_reducible rfl))
                  try simp only [Act.put, List.setIfInBounds_toArray, List.set_cons_zero, List.set_cons_succ]
                  refine all_take 5 (v := ?_) rfl (by kernel_rfl) (FlowsIf.read (by rfl) ?_) hex ?_
                  rotate_left
                  focus (intro w' hSw; obtain ⟨hb6, ⟨z0, z1, z2, z3, z4, z5, z6, zl⟩, hx2, hx1, hxl⟩ := hSw; go_simp; try (with_reducible rfl))
                  try simp only [Act.put, List.setIfInBounds_toArray, List.set_cons_zero, List.set_cons_succ]
                  refine all_take 6 (v := ?_) rfl (by kernel_rfl) (FlowsIf.read (by rfl) ?_) hex ?_
                  rotate_left
                  focus (intro w' hSw; obtain ⟨hb6, ⟨z0, z1, z2, z3, z4, z5, z6, zl⟩, hx2, hx1, hxl⟩ := hSw; go_simp; try (with_reducible rfl))
                  try simp only [Act.put, List.setIfInBounds_toArray, List.set_cons_zero, List.set_cons_succ]
                  refine all_take 7 (v := ?_) rfl (by kernel_rfl) (FlowsIf.call (f := 44) (args := ?_) (by rfl) ?_ ?_) hex ?_
                  rotate_left 2
                  focus (intro w'; go_simp; try (with_reducible rfl))
                  focus (exact H44.out)
                  try simp only [Act.put, List.setIfInBounds_toArray, List.set_cons_zero, List.set_cons_succ]
                  refine all_take 8 (v := ?_) rfl (by kernel_rfl) (FlowsIf.read (by rfl) ?_) hex ?_
                  rotate_left
                  focus (intro w' hSw; obtain ⟨hb6, ⟨z0, z1, z2, z3, z4, z5, z6, zl⟩, hx2, hx1, hxl⟩ := hSw; go_simp; try (with_reducible rfl))
                  try simp only [Act.put, List.setIfInBounds_toArray, List.set_cons_zero, List.set_cons_succ]
                  refine all_take 9 rfl (by kernel_rfl) (FlowsIf.skip (by rfl)) hex ?_
                  try simp only [Act.put, List.setIfInBounds_toArray, List.set_cons_zero, List.set_cons_succ]
                  refine all_take 10 rfl (by kernel_rfl) (FlowsIf.skip (by rfl)) hex ?_
                  try simp only [Act.put, List.setIfInBounds_toArray, List.set_cons_zero, List.set_cons_succ]
                  refine all_take 11 rfl (by kernel_rfl) (FlowsIf.skip (by rfl)) hex ?_
                  try simp only [Act.put, List.setIfInBounds_toArray, List.set_cons_zero, List.set_cons_succ]
                  refine all_take 12 rfl (by kernel_rfl) (FlowsIf.skip (by rfl)) hex ?_
                  try simp only [Act.put, List.setIfInBounds_toArray, List.set_cons_zero, List.set_cons_succ]
                  refine all_take 13 rfl (by kernel_rfl) (FlowsIf.skip (by rfl)) hex ?_
                  try simp only [Act.put, List.setIfInBounds_toArray, List.set_cons_zero, List.set_cons_succ]
                  refine all_take 14 rfl (by kernel_rfl) (FlowsIf.skip (by rfl)) hex ?_
                  try simp only [Act.put, List.setIfInBounds_toArray, List.set_cons_zero, List.set_cons_succ]
                  refine all_take 15 rfl (by kernel_rfl) (FlowsIf.skip (by rfl)) hex ?_
                  try simp only [Act.put, List.setIfInBounds_toArray, List.set_cons_zero, List.set_cons_succ]
                  refine all_take 16 rfl (by kernel_rfl) (FlowsIf.skip (by rfl)) hex ?_
                  try simp only [Act.put, List.setIfInBounds_toArray, List.set_cons_zero, List.set_cons_succ]
                  refine all_take 17 rfl (by kernel_rfl) (FlowsIf.skip (by rfl)) hex ?_
                  try simp only [Act.put, List.setIfInBounds_toArray, List.set_cons_zero, List.set_cons_succ]
                  refine all_take 18 rfl (by kernel_rfl) (FlowsIf.skip (by rfl)) hex ?_
                  try simp only [Act.put, List.setIfInBounds_toArray, List.set_cons_zero, List.set_cons_succ]
                  refine all_take 19 rfl (by kernel_rfl) (FlowsIf.skip (by rfl)) hex ?_
                  try simp only [Act.put, List.setIfInBounds_toArray, List.set_cons_zero, List.set_cons_succ]
                  refine all_take 20 rfl (by kernel_rfl) (FlowsIf.skip (by rfl)) hex ?_
                  try simp only [Act.put, List.setIfInBounds_toArray, List.set_cons_zero, List.set_cons_succ]
                  refine all_take 21 rfl (by kernel_rfl) (FlowsIf.skip (by rfl)) hex ?_
                  try simp only [Act.put, List.setIfInBounds_toArray, List.set_cons_zero, List.set_cons_succ]
                  refine all_take 22 rfl (by kernel_rfl) (FlowsIf.skip (by rfl)) hex ?_
                  try simp only [Act.put, List.setIfInBounds_toArray, List.set_cons_zero, List.set_cons_succ]
                  refine all_take 23 (v := ?_) rfl (by kernel_rfl) (FlowsIf.read (by rfl) ?_) hex ?_
                  rotate_left
                  focus (intro w' hSw; obtain ⟨hb6, ⟨z0, z1, z2, z3, z4, z5, z6, zl⟩, hx2, hx1, hxl⟩ := hSw; go_simp; try (with_reducible rfl))
                  try simp only [Act.put, List.setIfInBounds_toArray, List.set_cons_zero, List.set_cons_succ]
                  refine all_stop (by kernel_rfl) ?_
                  intro W3 hS3
                  refine till_done (by kernel_rfl) ?_
                  have HS3 := Lib.hid hS3
                  clear hS3
                  go_wp2
                  go_tidy
                  exact HDONE.out _ HS3.out.1 HCL.out
                | true =>
                  have hcl : clockL g S (setKn y.1 1 t) = max S.clock (stampS g (setKn y.1 1 t)) := by unfold clockL; rw [hfin]; rfl
                  rw [hfin] at H44
                  have HCL := Lib.hid hcl
                  obtain ⟨sv, hsv⟩ : ∃ sv, sv = stampS g (setKn y.1 1 t) := ⟨_, rfl⟩
                  rw [← hsv] at H45
                  have HSV := Lib.hid hsv
                  clear hfin hcl hsv
                  by_cases hgt : S.clock < sv
                  · have hgtb : decide (S.clock < sv) = true := decide_eq_true hgt
                    refine all_start (RLF W2 lk (i * 7) x (setKn y.1 1 t, y.2) (.slice (some ⟨lk, 0, none⟩) L.length lc) (.int .u64 S.clock)) 24 (by kernel_rfl) (hS0) ?_
                    show AllTill _ _ _ _ _ _ 24 (Array.replicate 24 false) _
                    refine all_take 0 (v := ?_) rfl (by kernel_rfl) (FlowsIf.read (by rfl) ?_) hex ?_
                    rotate_left
                    focus (intro w' hSw; obtain ⟨hb6, ⟨z0, z1, z2, z3, z4, z5, z6, zl⟩, hx2, hx1, hxl⟩ := hSw; go_simp; try (with_reducible rfl))
                    try simp only [Act.put, List.setIfInBounds_toArray, List.set_cons_zero, List.set_cons_succ]
                    refine all_take 1 (v := ?_) rfl (by kernel_rfl) (FlowsIf.read (by rfl) ?_) hex ?_
                    rotate_left
                    focus (intro w' hSw; obtain ⟨hb6, ⟨z0, z1, z2, z3, z4, z5, z6, zl⟩, hx2, hx1, hxl⟩ := hSw; go_simp; try (with_reducible rfl))
                    try simp only [Act.put, List.setIfInBounds_toArray, List.set_cons_zero, List.set_cons_succ]
                    refine all_take 2 (v := ?_) rfl (by kernel_rfl) (FlowsIf.read (by rfl) ?_) hex ?_
                    rotate_left
                    focus (intro w' hSw; obtain ⟨hb6, ⟨z0, z1, z2, z3, z4, z5, z6, zl⟩, hx2, hx1, hxl⟩ := hSw; go_simp; try (with_reducible rfl))
                    try simp only [Act.put, List.setIfInBounds_toArray, List.set_cons_zero, List.set_cons_succ]
                    refine all_take 3 (v := ?_) rfl (by kernel_rfl) (FlowsIf.read (by rfl) ?_) hex ?_
                    rotate_left
                    focus (intro w' hSw; obtain ⟨hb6, ⟨z0, z1, z2, z3, z4, z5, z6, zl⟩, hx2, hx1, hxl⟩ := hSw; go_simp; try (with_reducible rfl))
                    try simp only [Act.put, List.setIfInBounds_toArray, List.set_cons_zero, List.set_cons_succ]
                    refine all_take 4 (v := ?_) rfl (by kernel_rfl) (FlowsIf.read (by rfl) ?_) hex ?_
                    rotate_left
                    focus (intro w' hSw; obtain ⟨hb6, ⟨z0, z1, z2, z3, z4, z5, z6, zl⟩, hx2, hx1, hxl⟩ := hSw; go_simp; try (with_reducible rfl))
                    try simp only [Act.put, List.setIfInBounds_toArray, List.set_cons_zero, List.set_cons_succ]
                    refine all_take 5 (v := ?_) rfl (by kernel_rfl) (FlowsIf.read (by rfl) ?_) hex ?_
                    rotate_left
                    focus (intro w' hSw; obtain ⟨hb6, ⟨z0, z1, z2, z3, z4, z5, z6, zl⟩, hx2, hx1, hxl⟩ := hSw; go_simp; try (with_reducible rfl))
                    try simp only [Act.put, List.setIfInBounds_toArray, List.set_cons_zero, List.set_cons_succ]
                    refine all_take 6 (v := ?_) rfl (by kernel_rfl) (FlowsIf.read (by rfl) ?_) hex ?_
                    rotate_left
                    focus (intro w' hSw; obtain ⟨hb6, ⟨z0, z1, z2, z3, z4, z5, z6, zl⟩, hx2, hx1, hxl⟩ := hSw; go_simp; try (with_reducible rfl))
                    try simp only [Act.put, List.setIfInBounds_toArray, List.set_cons_zero, List.set_cons_succ]
                    refine all_take 7 (v := ?_) rfl (by kernel_rfl) (FlowsIf.call (f := 44) (args := ?_) (by rfl) ?_ ?_) hex ?_
                    rotate_left 2
                    focus (intro w'; go_simp; try (with_reducible rfl))
                    focus (exact H44.out)
                    try simp only [Act.put, List.setIfInBounds_toArray, List.set_cons_zero, List.set_cons_succ]
                    refine all_take 8 (v := ?_) rfl (by kernel_rfl) (FlowsIf.read (by rfl) ?_) hex ?_
                    rotate_left
                    focus (intro w' hSw; obtain ⟨hb6, ⟨z0, z1, z2, z3, z4, z5, z6, zl⟩, hx2, hx1, hxl⟩ := hSw; go_simp; try (with_reducible rfl))
                    try simp only [Act.put, List.setIfInBounds_toArray, List.set_cons_zero, List.set_cons_succ]
                    refine all_take 9 (v := ?_) rfl (by kernel_rfl) (FlowsIf.read (by rfl) ?_) hex ?_
                    rotate_left
                    focus (intro w' hSw; obtain ⟨hb6, ⟨z0, z1, z2, z3, z4, z5, z6, zl⟩, hx2, hx1, hxl⟩ := hSw; go_simp; try (with_reducible rfl))
                    try simp only [Act.put, List.setIfInBounds_toArray, List.set_cons_zero, List.set_cons_succ]
                    refine all_take 10 (v := ?_) rfl (by kernel_rfl) (FlowsIf.read (by rfl) ?_) hex ?_
                    rotate_left
                    focus (intro w' hSw; obtain ⟨hb6, ⟨z0, z1, z2, z3, z4, z5, z6, zl⟩, hx2, hx1, hxl⟩ := hSw; go_simp; try (with_reducible rfl))
                    try simp only [Act.put, List.setIfInBounds_toArray, List.set_cons_zero, List.set_cons_succ]
                    refine all_take 11 (v := ?_) rfl (by kernel_rfl) (FlowsIf.read (by rfl) ?_) hex ?_
                    rotate_left
                    focus (intro w' hSw; obtain ⟨hb6, ⟨z0, z1, z2, z3, z4, z5, z6, zl⟩, hx2, hx1, hxl⟩ := hSw; go_simp; try (with_reducible rfl))
                    try simp only [Act.put, List.setIfInBounds_toArray, List.set_cons_zero, List.set_cons_succ]
                    refine all_take 12 (v := ?_) rfl (by kernel_rfl) (FlowsIf.read (by rfl) ?_) hex ?_
                    rotate_left
                    focus (intro w' hSw; obtain ⟨hb6, ⟨z0, z1, z2, z3, z4, z5, z6, zl⟩, hx2, hx1, hxl⟩ := hSw; go_simp; try (with_reducible rfl))
                    try simp only [Act.put, List.setIfInBounds_toArray, List.set_cons_zero, List.set_cons_succ]
                    refine all_take 13 (v := ?_) rfl (by kernel_rfl) (FlowsIf.read (by rfl) ?_) hex ?_
                    rotate_left
                    focus (intro w' hSw; obtain ⟨hb6, ⟨z0, z1, z2, z3, z4, z5, z6, zl⟩, hx2, hx1, hxl⟩ := hSw; go_simp; try (with_reducible rfl))
                    try simp only [Act.put, List.setIfInBounds_toArray, List.set_cons_zero, List.set_cons_succ]
                    refine all_take 14 (v := ?_) rfl (by kernel_rfl) (FlowsIf.read (by rfl) ?_) hex ?_
                    rotate_left
                    focus (intro w' hSw; obtain ⟨hb6, ⟨z0, z1, z2, z3, z4, z5, z6, zl⟩, hx2, hx1, hxl⟩ := hSw; go_simp; try (with_reducible rfl))
                    try simp only [Act.put, List.setIfInBounds_toArray, List.set_cons_zero, List.set_cons_succ]
                    refine all_take 15 (v := ?_) rfl (by kernel_rfl) (FlowsIf.read (by rfl) ?_) hex ?_
                    rotate_left
                    focus (intro w' hSw; obtain ⟨hb6, ⟨z0, z1, z2, z3, z4, z5, z6, zl⟩, hx2, hx1, hxl⟩ := hSw; go_simp; try (with_reducible rfl))
                    try simp only [Act.put, List.setIfInBounds_toArray, List.set_cons_zero, List.set_cons_succ]
                    refine all_take 16 (v := ?_) rfl (by kernel_rfl) (FlowsIf.read (by rfl) ?_) hex ?_
                    rotate_left
                    focus (intro w' hSw; obtain ⟨hb6, ⟨z0, z1, z2, z3, z4, z5, z6, zl⟩, hx2, hx1, hxl⟩ := hSw; go_simp; try (with_reducible rfl))
                    try simp only [Act.put, List.setIfInBounds_toArray, List.set_cons_zero, List.set_cons_succ]
                    refine all_take 17 (v := ?_) rfl (by kernel_rfl) (FlowsIf.call (f := 45) (args := ?_) (by rfl) ?_ ?_) hex ?_
                    rotate_left 2
                    focus (intro w'; go_simp; try (with_reducible rfl))
                    focus (exact H45.out)
                    try simp only [Act.put, List.setIfInBounds_toArray, List.set_cons_zero, List.set_cons_succ]
                    refine all_take 18 (v := ?_) rfl (by kernel_rfl) (FlowsIf.read (by rfl) ?_) hex ?_
                    rotate_left
                    focus (intro w' hSw; obtain ⟨hb6, ⟨z0, z1, z2, z3, z4, z5, z6, zl⟩, hx2, hx1, hxl⟩ := hSw; go_simp; try (with_reducible rfl))
                    try simp only [Act.put, List.setIfInBounds_toArray, List.set_cons_zero, List.set_cons_succ]
                    refine all_take 19 (v := ?_) rfl (by kernel_rfl) (FlowsIf.read (by rfl) ?_) hex ?_
                    rotate_left
                    focus (intro w' hSw; obtain ⟨hb6, ⟨z0, z1, z2, z3, z4, z5, z6, zl⟩, hx2, hx1, hxl⟩ := hSw; go_simp; try (with_reducible rfl))
                    try simp only [Act.put, List.setIfInBounds_toArray, List.set_cons_zero, List.set_cons_succ]
                    refine all_take 20 (v := ?_) rfl (by kernel_rfl) (FlowsIf.read (by rfl) ?_) hex ?_
                    rotate_left
                    focus (intro w' hSw; obtain ⟨hb6, ⟨z0, z1, z2, z3, z4, z5, z6, zl⟩, hx2, hx1, hxl⟩ := hSw; go_simp; try (with_reducible rfl))
                    try simp only [Act.put, List.setIfInBounds_toArray, List.set_cons_zero, List.set_cons_succ]
                    refine all_take 21 (v := ?_) rfl (by kernel_rfl) (FlowsIf.read (by rfl) ?_) hex ?_
                    rotate_left
                    focus (intro w' hSw; obtain ⟨hb6, ⟨z0, z1, z2, z3, z4, z5, z6, zl⟩, hx2, hx1, hxl⟩ := hSw; go_simp; try (with_reducible rfl))
                    try simp only [Act.put, List.setIfInBounds_toArray, List.set_cons_zero, List.set_cons_succ]
                    refine all_take 22 (v := ?_) rfl (by kernel_rfl) (FlowsIf.read (by rfl) ?_) hex ?_
                    rotate_left
                    focus (intro w' hSw; obtain ⟨hb6, ⟨z0, z1, z2, z3, z4, z5, z6, zl⟩, hx2, hx1, hxl⟩ := hSw; go_simp; try (with_reducible rfl))
                    try simp only [Act.put, List.setIfInBounds_toArray, List.set_cons_zero, List.set_cons_succ]
                    refine all_take 23 (v := ?_) rfl (by kernel_rfl) (FlowsIf.read (by rfl) ?_) hex ?_
                    rotate_left
                    focus (intro w' hSw; obtain ⟨hb6, ⟨z0, z1, z2, z3, z4, z5, z6, zl⟩, hx2, hx1, hxl⟩ := hSw; go_simp; try (with_reducible rfl))
                    try simp only [Act.put, List.setIfInBounds_toArray, List.set_cons_zero, List.set_cons_succ]
                    refine all_stop (by kernel_rfl) ?_
                    intro W3 hS3
                    refine till_done (by kernel_rfl) ?_
                    have HS3 := Lib.hid hS3
                    clear hS3
                    obtain ⟨hb6, ⟨z0, z1, z2, z3, z4, z5, z6, zl⟩, hx2, hx1, hxl⟩ := HS3.out
                    go_wp2_with (first | (go_at_call 45; refine (H45.out _ HS3.out).mono ?_; rintro e W4 ⟨rfl, hS4⟩; have HS4 := Lib.hid hS4; obtain ⟨hb64, -, -, hx14, hxl4⟩ := hS4; have hxf4 := (HT1.out.2.1.keep hb64 HT1.out.2.1.lt).free 1; clear hb64) | fail)
                    go_tidy
                    have hb6 := HS4.out.1
                    obtain ⟨r1, r2, r3, r4, r5, r6, r7, -⟩ := HT1.out
                    have ks : ∀ j, j ≠ x → (W4.setCell ⟨x, 1, none⟩ (.int .u64 sv)).heap[j]? = W4.heap[j]? := fun j hj => Below.heap_setCell _ _ _ j (by simpa using hj)
                    have := HH.out.told HY.out.1 H1.out H2.out HT.out.1 HT.out.2 (W := W4.setCell ⟨x, 1, none⟩ (.int .u64 sv))
                      (ownsRow_keep (own_belowW r1 hb6) fun j hj => ks j fun e => HH.out.lx (by rw [← e]; exact hj))
                      (by rw [HCL.out, ← HSV.out, show max S.clock sv = sv by omega]; exact (r2.keep hb6 r2.lt).set 1 _)
                      (by rw [← r3]; simpa using hb6.size) (fun j hj h1 h2 => by rw [ks j h2, hb6.block j (by omega), r4 j h1]) (hb6.os.trans r5) (hb6.tape.trans r6) (hb6.output.trans r7)
                    exact END.out _ _ _ this.1 (RStep.after HB2.out this.2)
                  · have hgtb : decide (S.clock < sv) = false := decide_eq_false hgt
                    refine all_start (RLF W2 lk (i * 7) x (setKn y.1 1 t, y.2) (.slice (some ⟨lk, 0, none⟩) L.length lc) (.int .u64 S.clock)) 24 (by kernel_rfl) (hS0) ?_
                    show AllTill _ _ _ _ _ _ 24 (Array.replicate 24 false) _
                    refine all_take 0 (v := ?_) rfl (by kernel_rfl) (FlowsIf.read (by rfl) ?_) hex ?_
                    rotate_left
                    focus (intro w' hSw; obtain ⟨hb6, ⟨z0, z1, z2, z3, z4, z5, z6, zl⟩, hx2, hx1, hxl⟩ := hSw; go_simp; try (with_reducible rfl))
                    try simp only [Act.put, List.setIfInBounds_toArray, List.set_cons_zero, List.set_cons_succ]
                    refine all_take 1 (v := ?_) rfl (by kernel_rfl) (FlowsIf.read (by rfl) ?_) hex ?_
                    rotate_left
                    focus (intro w' hSw; obtain ⟨hb6, ⟨z0, z1, z2, z3, z4, z5, z6, zl⟩, hx2, hx1, hxl⟩ := hSw; go_simp; try (with_reducible rfl))
                    try simp only [Act.put, List.setIfInBounds_toArray, List.set_cons_zero, List.set_cons_succ]
                    refine all_take 2 (v := ?_) rfl (by kernel_rfl) (FlowsIf.read (by rfl) ?_) hex ?_
                    rotate_left
                    focus (intro w' hSw; obtain ⟨hb6, ⟨z0, z1, z2, z3, z4, z5, z6, zl⟩, hx2, hx1, hxl⟩ := hSw; go_simp; try (with_reducible rfl))
                    try simp only [Act.put, List.setIfInBounds_toArray, List.set_cons_zero, List.set_cons_succ]
                    refine all_take 3 (v := ?_) rfl (by kernel_rfl) (FlowsIf.read (by rfl) ?_) hex ?_
                    rotate_left
                    focus (intro w' hSw; obtain ⟨hb6, ⟨z0, z1, z2, z3, z4, z5, z6, zl⟩, hx2, hx1, hxl⟩ := hSw; go_simp; try (with_reducible rfl))
                    try simp only [Act.put, List.setIfInBounds_toArray, List.set_cons_zero, List.set_cons_succ]
                    refine all_take 4 (v := ?_) rfl (by kernel_rfl) (FlowsIf.read (by rfl) ?_) hex ?_
                    rotate_left
                    focus (intro w' hSw; obtain ⟨hb6, ⟨z0, z1, z2, z3, z4, z5, z6, zl⟩, hx2, hx1, hxl⟩ := hSw; go_simp; try (with_reducible rfl))
                    try simp only [Act.put, List.setIfInBounds_toArray, List.set_cons_zero, List.set_cons_succ]
                    refine all_take 5 (v := ?_) rfl (by kernel_rfl) (FlowsIf.read (by rfl) ?_) hex ?_
                    rotate_left
                    focus (intro w' hSw; obtain ⟨hb6, ⟨z0, z1, z2, z3, z4, z5, z6, zl⟩, hx2, hx1, hxl⟩ := hSw; go_simp; try (with_reducible rfl))
                    try simp only [Act.put, List.setIfInBounds_toArray, List.set_cons_zero, List.set_cons_succ]
                    refine all_take 6 (v := ?_) rfl (by kernel_rfl) (FlowsIf.read (by rfl) ?_) hex ?_
                    rotate_left
                    focus (intro w' hSw; obtain ⟨hb6, ⟨z0, z1, z2, z3, z4, z5, z6, zl⟩, hx2, hx1, hxl⟩ := hSw; go_simp; try (with_reducible rfl))
                    try simp only [Act.put, List.setIfInBounds_toArray, List.set_cons_zero, List.set_cons_succ]
                    refine all_take 7 (v := ?_) rfl (by kernel_rfl) (FlowsIf.call (f := 44) (args := ?_) (by rfl) ?_ ?_) hex ?_
                    rotate_left 2
                    focus (intro w'; go_simp; try (with_reducible rfl))
                    focus (exact H44.out)
                    try simp only [Act.put, List.setIfInBounds_toArray, List.set_cons_zero, List.set_cons_succ]
                    refine all_take 8 (v := ?_) rfl (by kernel_rfl) (FlowsIf.read (by rfl) ?_) hex ?_
                    rotate_left
                    focus (intro w' hSw; obtain ⟨hb6, ⟨z0, z1, z2, z3, z4, z5, z6, zl⟩, hx2, hx1, hxl⟩ := hSw; go_simp; try (with_reducible rfl))
                    try simp only [Act.put, List.setIfInBounds_toArray, List.set_cons_zero, List.set_cons_succ]
                    refine all_take 9 (v := ?_) rfl (by kernel_rfl) (FlowsIf.read (by rfl) ?_) hex ?_
                    rotate_left
                    focus (intro w' hSw; obtain ⟨hb6, ⟨z0, z1, z2, z3, z4, z5, z6, zl⟩, hx2, hx1, hxl⟩ := hSw; go_simp; try (with_reducible rfl))
                    try simp only [Act.put, List.setIfInBounds_toArray, List.set_cons_zero, List.set_cons_succ]
                    refine all_take 10 (v := ?_) rfl (by kernel_rfl) (FlowsIf.read (by rfl) ?_) hex ?_
                    rotate_left
                    focus (intro w' hSw; obtain ⟨hb6, ⟨z0, z1, z2, z3, z4, z5, z6, zl⟩, hx2, hx1, hxl⟩ := hSw; go_simp; try (with_reducible rfl))
                    try simp only [Act.put, List.setIfInBounds_toArray, List.set_cons_zero, List.set_cons_succ]
                    refine all_take 11 (v := ?_) rfl (by kernel_rfl) (FlowsIf.read (by rfl) ?_) hex ?_
                    rotate_left
                    focus (intro w' hSw; obtain ⟨hb6, ⟨z0, z1, z2, z3, z4, z5, z6, zl⟩, hx2, hx1, hxl⟩ := hSw; go_simp; try (with_reducible rfl))
                    try simp only [Act.put, List.setIfInBounds_toArray, List.set_cons_zero, List.set_cons_succ]
                    refine all_take 12 (v := ?_) rfl (by kernel_rfl) (FlowsIf.read (by rfl) ?_) hex ?_
                    rotate_left
                    focus (intro w' hSw; obtain ⟨hb6, ⟨z0, z1, z2, z3, z4, z5, z6, zl⟩, hx2, hx1, hxl⟩ := hSw; go_simp; try (with_reducible rfl))
                    try simp only [Act.put, List.setIfInBounds_toArray, List.set_cons_zero, List.set_cons_succ]
                    refine all_take 13 (v := ?_) rfl (by kernel_rfl) (FlowsIf.read (by rfl) ?_) hex ?_
                    rotate_left
                    focus (intro w' hSw; obtain ⟨hb6, ⟨z0, z1, z2, z3, z4, z5, z6, zl⟩, hx2, hx1, hxl⟩ := hSw; go_simp; try (with_reducible rfl))
                    try simp only [Act.put, List.setIfInBounds_toArray, List.set_cons_zero, List.set_cons_succ]
                    refine all_take 14 (v := ?_) rfl (by kernel_rfl) (FlowsIf.read (by rfl) ?_) hex ?_
                    rotate_left
                    focus (intro w' hSw; obtain ⟨hb6, ⟨z0, z1, z2, z3, z4, z5, z6, zl⟩, hx2, hx1, hxl⟩ := hSw; go_simp; try (with_reducible rfl))
                    try simp only [Act.put, List.setIfInBounds_toArray, List.set_cons_zero, List.set_cons_succ]
                    refine all_take 15 (v := ?_) rfl (by kernel_rfl) (FlowsIf.read (by rfl) ?_) hex ?_
                    rotate_left
                    focus (intro w' hSw; obtain ⟨hb6, ⟨z0, z1, z2, z3, z4, z5, z6, zl⟩, hx2, hx1, hxl⟩ := hSw; go_simp; try (with_reducible rfl))
                    try simp only [Act.put, List.setIfInBounds_toArray, List.set_cons_zero, List.set_cons_succ]
                    refine all_take 16 (v := ?_) rfl (by kernel_rfl) (FlowsIf.read (by rfl) ?_) hex ?_
                    rotate_left
                    focus (intro w' hSw; obtain ⟨hb6, ⟨z0, z1, z2, z3, z4, z5, z6, zl⟩, hx2, hx1, hxl⟩ := hSw; go_simp; try (with_reducible rfl))
                    try simp only [Act.put, List.setIfInBounds_toArray, List.set_cons_zero, List.set_cons_succ]
                    refine all_take 17 (v := ?_) rfl (by kernel_rfl) (FlowsIf.call (f := 45) (args := ?_) (by rfl) ?_ ?_) hex ?_
                    rotate_left 2
                    focus (intro w'; go_simp; try (with_reducible rfl))
                    focus (exact H45.out)
                    try simp only [Act.put, List.setIfInBounds_toArray, List.set_cons_zero, List.set_cons_succ]
                    refine all_take 18 (v := ?_) rfl (by kernel_rfl) (FlowsIf.read (by rfl) ?_) hex ?_
                    rotate_left
                    focus (intro w' hSw; obtain ⟨hb6, ⟨z0, z1, z2, z3, z4, z5, z6, zl⟩, hx2, hx1, hxl⟩ := hSw; go_simp; try (with_reducible rfl))
                    try simp only [Act.put, List.setIfInBounds_toArray, List.set_cons_zero, List.set_cons_succ]
                    refine all_take 19 (v := ?_) rfl (by kernel_rfl) (FlowsIf.read (by rfl) ?_) hex ?_
                    rotate_left
                    focus (intro w' hSw; obtain ⟨hb6, ⟨z0, z1, z2, z3, z4, z5, z6, zl⟩, hx2, hx1, hxl⟩ := hSw; go_simp; try (with_reducible rfl))
                    try simp only [Act.put, List.setIfInBounds_toArray, List.set_cons_zero, List.set_cons_succ]
                    refine all_take 20 (v := ?_) rfl (by kernel_rfl) (FlowsIf.read (by rfl) ?_) hex ?_
                    rotate_left
                    focus (intro w' hSw; obtain ⟨hb6, ⟨z0, z1, z2, z3, z4, z5, z6, zl⟩, hx2, hx1, hxl⟩ := hSw; go_simp; try (with_reducible rfl))
                    try simp only [Act.put, List.setIfInBounds_toArray, List.set_cons_zero, List.set_cons_succ]
                    refine all_take 21 (v := ?_) rfl (by kernel_rfl) (FlowsIf.read (by rfl) ?_) hex ?_
                    rotate_left
                    focus (intro w' hSw; obtain ⟨hb6, ⟨z0, z1, z2, z3, z4, z5, z6, zl⟩, hx2, hx1, hxl⟩ := hSw; go_simp; try (with_reducible rfl))
                    try simp only [Act.put, List.setIfInBounds_toArray, List.set_cons_zero, List.set_cons_succ]
                    refine all_take 22 (v := ?_) rfl (by kernel_rfl) (FlowsIf.read (by rfl) ?_) hex ?_
                    rotate_left
                    focus (intro w' hSw; obtain ⟨hb6, ⟨z0, z1, z2, z3, z4, z5, z6, zl⟩, hx2, hx1, hxl⟩ := hSw; go_simp; try (with_reducible rfl))
                    try simp only [Act.put, List.setIfInBounds_toArray, List.set_cons_zero, List.set_cons_succ]
                    refine all_take 23 (v := ?_) rfl (by kernel_rfl) (FlowsIf.read (by rfl) ?_) hex ?_
                    rotate_left
                    focus (intro w' hSw; obtain ⟨hb6, ⟨z0, z1, z2, z3, z4, z5, z6, zl⟩, hx2, hx1, hxl⟩ := hSw; go_simp; try (with_reducible rfl))
                    try simp only [Act.put, List.setIfInBounds_toArray, List.set_cons_zero, List.set_cons_succ]
                    refine all_stop (by kernel_rfl) ?_
                    intro W3 hS3
                    refine till_done (by kernel_rfl) ?_
                    have HS3 := Lib.hid hS3
                    clear hS3
                    go_wp2
                    go_tidy
                    exact HDONE.out _ HS3.out.1 (by rw [HCL.out, ← HSV.out]; omega)
              · go_upto_region 9 with (first | (go_at_call 38; refine H38.out.mono ?_; rintro e w1 ⟨rfl, rfl⟩) | fail)
                generalize hW2 : World.setCell _ _ _ = W2
                have ht1 := HH.out.told1 HY.out.1 (k := 2) (t := t) 2 rfl (by omega) (W := W2) (by rw [← hW2])
                have HT1 := Lib.hid ht1
                clear hW2 y0 y1 y2 y3 y4 y5 y6 yl x0 x2 xl lfr h3b h4b h0b ht1
                have hSI : ∀ W, Below W2.heap.size W2 W → RLF W2 lk (i * 7) x (setKn y.1 2 t, y.2) (.slice (some ⟨lk, 0, none⟩) L.length lc) (.int .u64 S.clock) W := fun W hb => by
                  have hy' : (L.set i (setKn y.1 2 t, y.2))[i]? = some (setKn y.1 2 t, y.2) := by rw [List.getElem?_set_self hil]
                  obtain ⟨r1, r2, -⟩ := HT1.out
                  have r1' := own_belowW r1 hb
                  rw [show Value.slice (some ⟨lk, 0, none⟩) L.length lc = Value.slice (some ⟨lk, 0, none⟩) (L.set i (setKn y.1 2 t, y.2)).length lc by rw [List.length_set]] at r1'
                  have r2' := r2.keep hb r2.lt
                  exact ⟨hb, CellsR.of r1' hy', r2'.cell (j := 2) rfl, r2'.cell (j := 1) rfl, r2'.lt⟩
                have h44 : ∀ W, RLF W2 lk (i * 7) x (setKn y.1 2 t, y.2) (.slice (some ⟨lk, 0, none⟩) L.length lc) (.int .u64 S.clock) W → Calls Try.prog 44 #[oneV (setKn y.1 2 t, y.2)] W fun e w' => e = .returned (.bool (final (setKn y.1 2 t))) ∧ RLF W2 lk (i * 7) x (setKn y.1 2 t, y.2) (.slice (some ⟨lk, 0, none⟩) L.length lc) (.int .u64 S.clock) w' := fun W hb => by
                  refine (c44 (HT1.out.2.2.2.2.2.2.2.below hb.1)).mono ?_
                  rintro e w' ⟨rfl, h2⟩
                  exact ⟨rfl, hSI w' (hb.1.trans (h2.mono hb.1.size))⟩
                have h45 : ∀ W, RLF W2 lk (i * 7) x (setKn y.1 2 t, y.2) (.slice (some ⟨lk, 0, none⟩) L.length lc) (.int .u64 S.clock) W → Calls Try.prog 45 #[.pointer (some ⟨x, 0, none⟩), oneV (setKn y.1 2 t, y.2)] W fun e w' => e = .returned (.int .u64 (stampS g (setKn y.1 2 t))) ∧ RLF W2 lk (i * 7) x (setKn y.1 2 t, y.2) (.slice (some ⟨lk, 0, none⟩) L.length lc) (.int .u64 S.clock) w' := fun W hb => by
                  refine (c45 (HT1.out.2.1.keep hb.1 HT1.out.2.1.lt) HH.out.g0 (HT1.out.2.2.2.2.2.2.2.below hb.1)).mono ?_
                  rintro e w' ⟨rfl, h2⟩
                  exact ⟨rfl, hSI w' (hb.1.trans (h2.mono hb.1.size))⟩
                have H44 := Lib.hid h44
                have H45 := Lib.hid h45
                have hS0 := hSI W2.drew (Below.refl _ _).drew
                have hex := Exists.intro _ hS0
                have HSI := Lib.hid hSI
                clear hSI h44 h45
                unfold oneV at H44 H45
                -- what is left at the end
                have hdone : ∀ W, Below W2.heap.size W2 W → clockL g S (setKn y.1 2 t) = S.clock → R (.returned (.int .i64 0)) W := fun W hb hc => by
                  obtain ⟨r1, r2, r3, r4, r5, r6, r7, -⟩ := HT1.out
                  have := HH.out.told HY.out.1 H1.out H2.out HT.out.1 HT.out.2 (W := W) (own_belowW r1 hb) (by rw [hc]; exact r2.keep hb r2.lt) (by rw [← r3]; exact hb.size) (fun j hj h1 _ => by rw [hb.block j (by omega), r4 j h1]) (hb.os.trans r5) (hb.tape.trans r6) (hb.output.trans r7)
                  exact END.out W _ _ this.1 (RStep.after HB2.out this.2)
                have HDONE := Lib.hid hdone
                clear hdone
                cases hfin : final (setKn y.1 2 t) with
                | false =>
                  have hcl : clockL g S (setKn y.1 2 t) = S.clock := by unfold clockL; rw [hfin]; rfl
                  rw [hfin] at H44
                  have HCL := Lib.hid hcl
                  clear hfin hcl
                  refine all_start (RLF W2 lk (i * 7) x (setKn y.1 2 t, y.2) (.slice (some ⟨lk, 0, none⟩) L.length lc) (.int .u64 S.clock)) 24 (by kernel_rfl) (hS0) ?_
                  show AllTill _ _ _ _ _ _ 24 (Array.replicate 24 false) _
                  refine all_take 0 (v := ?_) rfl (by kernel_rfl) (FlowsIf.read (by rfl) ?_) hex ?_
                  rotate_left
                  focus (intro w' hSw; obtain ⟨hb6, ⟨z0, z1, z2, z3, z4, z5, z6, zl⟩, hx2, hx1, hxl⟩ := hSw; go_simp; try (with_reducible rfl))
                  try simp only [Act.put, List.setIfInBounds_toArray, List.set_cons_zero, List.set_cons_succ]
                  refine all_take 1 (v := ?_) rfl (by kernel_rfl) (FlowsIf.read (by rfl) ?_) hex ?_
                  rotate_left
                  focus (intro w' hSw; obtain ⟨hb6, ⟨z0, z1, z2, z3, z4, z5, z6, zl⟩, hx2, hx1, hxl⟩ := hSw; go_simp; try (with_reducible rfl))
                  try simp only [Act.put, List.setIfInBounds_toArray, List.set_cons_zero, List.set_cons_succ]
                  refine all_take 2 (v := ?_) rfl (by kernel_rfl) (FlowsIf.read (by rfl) ?_) hex ?_
                  rotate_left
                  focus (intro w' hSw; obtain ⟨hb6, ⟨z0, z1, z2, z3, z4, z5, z6, zl⟩, hx2, hx1, hxl⟩ := hSw; go_simp; try (with_reducible rfl))
                  try simp only [Act.put, List.setIfInBounds_toArray, List.set_cons_zero, List.set_cons_succ]
                  refine all_take 3 (v := ?_) rfl (by kernel_rfl) (FlowsIf.read (by rfl) ?_) hex ?_
                  rotate_left
                  focus (intro w' hSw; obtain ⟨hb6, ⟨z0, z1, z2, z3, z4, z5, z6, zl⟩, hx2, hx1, hxl⟩ := hSw; go_simp; try (with_reducible rfl))
                  try simp only [Act.put, List.setIfInBounds_toArray, List.set_cons_zero, List.set_cons_succ]
                  refine all_take 4 (v := ?_) rfl (by kernel_rfl) (FlowsIf.read (by rfl) ?_) hex ?_
                  rotate_left
                  focus (intro w' hSw; obtain ⟨hb6, ⟨z0, z1, z2, z3, z4, z5, z6, zl⟩, hx2, hx1, hxl⟩ := hSw; go_simp; try (with_reducible rfl))
                  try simp only [Act.put, List.setIfInBounds_toArray, List.set_cons_zero, List.set_cons_succ]
                  refine all_take 5 (v := ?_) rfl (by kernel_rfl) (FlowsIf.read (by rfl) ?_) hex ?_
                  rotate_left
                  focus (intro w' hSw; obtain ⟨hb6, ⟨z0, z1, z2, z3, z4, z5, z6, zl⟩, hx2, hx1, hxl⟩ := hSw; go_simp; try (with_reducible rfl))
                  try simp only [Act.put, List.setIfInBounds_toArray, List.set_cons_zero, List.set_cons_succ]
                  refine all_take 6 (v := ?_) rfl (by kernel_rfl) (FlowsIf.read (by rfl) ?_) hex ?_
                  rotate_left
                  focus (intro w' hSw; obtain ⟨hb6, ⟨z0, z1, z2, z3, z4, z5, z6, zl⟩, hx2, hx1, hxl⟩ := hSw; go_simp; try (with_reducible rfl))
                  try simp only [Act.put, List.setIfInBounds_toArray, List.set_cons_zero, List.set_cons_succ]
                  refine all_take 7 (v := ?_) rfl (by kernel_rfl) (FlowsIf.call (f := 44) (args := ?_) (by rfl) ?_ ?_) hex ?_
                  rotate_left 2
                  focus (intro w'; go_simp; try (with_reducible rfl))
                  focus (exact H44.out)
                  try simp only [Act.put, List.setIfInBounds_toArray, List.set_cons_zero, List.set_cons_succ]
                  refine all_take 8 (v := ?_) rfl (by kernel_rfl) (FlowsIf.read (by rfl) ?_) hex ?_
                  rotate_left
                  focus (intro w' hSw; obtain ⟨hb6, ⟨z0, z1, z2, z3, z4, z5, z6, zl⟩, hx2, hx1, hxl⟩ := hSw; go_simp; try (with_reducible rfl))
                  try simp only [Act.put, List.setIfInBounds_toArray, List.set_cons_zero, List.set_cons_succ]
                  refine all_take 9 rfl (by kernel_rfl) (FlowsIf.skip (by rfl)) hex ?_
                  try simp only [Act.put, List.setIfInBounds_toArray, List.set_cons_zero, List.set_cons_succ]
                  refine all_take 10 rfl (by kernel_rfl) (FlowsIf.skip (by rfl)) hex ?_
                  try simp only [Act.put, List.setIfInBounds_toArray, List.set_cons_zero, List.set_cons_succ]
                  refine all_take 11 rfl (by kernel_rfl) (FlowsIf.skip (by rfl)) hex ?_
                  try simp only [Act.put, List.setIfInBounds_toArray, List.set_cons_zero, List.set_cons_succ]
                  refine all_take 12 rfl (by kernel_rfl) (FlowsIf.skip (by rfl)) hex ?_
                  try simp only [Act.put, List.setIfInBounds_toArray, List.set_cons_zero, List.set_cons_succ]
                  refine all_take 13 rfl (by kernel_rfl) (FlowsIf.skip (by rfl)) hex ?_
                  try simp only [Act.put, List.setIfInBounds_toArray, List.set_cons_zero, List.set_cons_succ]
                  refine all_take 14 rfl (by kernel_rfl) (FlowsIf.skip (by rfl)) hex ?_
                  try simp only [Act.put, List.setIfInBounds_toArray, List.set_cons_zero, List.set_cons_succ]
                  refine all_take 15 rfl (by kernel_rfl) (FlowsIf.skip (by rfl)) hex ?_
                  try simp only [Act.put, List.setIfInBounds_toArray, List.set_cons_zero, List.set_cons_succ]
                  refine all_take 16 rfl (by kernel_rfl) (FlowsIf.skip (by rfl)) hex ?_
                  try simp only [Act.put, List.setIfInBounds_toArray, List.set_cons_zero, List.set_cons_succ]
                  refine all_take 17 rfl (by kernel_rfl) (FlowsIf.skip (by rfl)) hex ?_
                  try simp only [Act.put, List.setIfInBounds_toArray, List.set_cons_zero, List.set_cons_succ]
                  refine all_take 18 rfl (by kernel_rfl) (FlowsIf.skip (by rfl)) hex ?_
                  try simp only [Act.put, List.setIfInBounds_toArray, List.set_cons_zero, List.set_cons_succ]
                  refine all_take 19 rfl (by kernel_rfl) (FlowsIf.skip (by rfl)) hex ?_
                  try simp only [Act.put, List.setIfInBounds_toArray, List.set_cons_zero, List.set_cons_succ]
                  refine all_take 20 rfl (by kernel_rfl) (FlowsIf.skip (by rfl)) hex ?_
                  try simp only [Act.put, List.setIfInBounds_toArray, List.set_cons_zero, List.set_cons_succ]
                  refine all_take 21 rfl (by kernel_rfl) (FlowsIf.skip (by rfl)) hex ?_
                  try simp only [Act.put, List.setIfInBounds_toArray, List.set_cons_zero, List.set_cons_succ]
                  refine all_take 22 rfl (by kernel_rfl) (FlowsIf.skip (by rfl)) hex ?_
                  try simp only [Act.put, List.setIfInBounds_toArray, List.set_cons_zero, List.set_cons_succ]
                  refine all_take 23 (v := ?_) rfl (by kernel_rfl) (FlowsIf.read (by rfl) ?_) hex ?_
                  rotate_left
                  focus (intro w' hSw; obtain ⟨hb6, ⟨z0, z1, z2, z3, z4, z5, z6, zl⟩, hx2, hx1, hxl⟩ := hSw; go_simp; try (with_reducible rfl))
                  try simp only [Act.put, List.setIfInBounds_toArray, List.set_cons_zero, List.set_cons_succ]
                  refine all_stop (by kernel_rfl) ?_
                  intro W3 hS3
                  refine till_done (by kernel_rfl) ?_
                  have HS3 := Lib.hid hS3
                  clear hS3
                  go_wp2
                  go_tidy
                  exact HDONE.out _ HS3.out.1 HCL.out
                | true =>
                  have hcl : clockL g S (setKn y.1 2 t) = max S.clock (stampS g (setKn y.1 2 t)) := by unfold clockL; rw [hfin]; rfl
                  rw [hfin] at H44
                  have HCL := Lib.hid hcl
                  obtain ⟨sv, hsv⟩ : ∃ sv, sv = stampS g (setKn y.1 2 t) := ⟨_, rfl⟩
                  rw [← hsv] at H45
                  have HSV := Lib.hid hsv
                  clear hfin hcl hsv
                  by_cases hgt : S.clock < sv
                  · have hgtb : decide (S.clock < sv) = true := decide_eq_true hgt
                    refine all_start (RLF W2 lk (i * 7) x (setKn y.1 2 t, y.2) (.slice (some ⟨lk, 0, none⟩) L.length lc) (.int .u64 S.clock)) 24 (by kernel_rfl) (hS0) ?_
                    show AllTill _ _ _ _ _ _ 24 (Array.replicate 24 false) _
                    refine all_take 0 (v := ?_) rfl (by kernel_rfl) (FlowsIf.read (by rfl) ?_) hex ?_
                    rotate_left
                    focus (intro w' hSw; obtain ⟨hb6, ⟨z0, z1, z2, z3, z4, z5, z6, zl⟩, hx2, hx1, hxl⟩ := hSw; go_simp; try (with_reducible rfl))
                    try simp only [Act.put, List.setIfInBounds_toArray, List.set_cons_zero, List.set_cons_succ]
                    refine all_take 1 (v := ?_) rfl (by kernel_rfl) (FlowsIf.read (by rfl) ?_) hex ?_
                    rotate_left
                    focus (intro w' hSw; obtain ⟨hb6, ⟨z0, z1, z2, z3, z4, z5, z6, zl⟩, hx2, hx1, hxl⟩ := hSw; go_simp; try (with_reducible rfl))
                    try simp only [Act.put, List.setIfInBounds_toArray, List.set_cons_zero, List.set_cons_succ]
                    refine all_take 2 (v := ?_) rfl (by kernel_rfl) (FlowsIf.read (by rfl) ?_) hex ?_
                    rotate_left
                    focus (intro w' hSw; obtain ⟨hb6, ⟨z0, z1, z2, z3, z4, z5, z6, zl⟩, hx2, hx1, hxl⟩ := hSw; go_simp; try (with_reducible rfl))
                    try simp only [Act.put, List.setIfInBounds_toArray, List.set_cons_zero, List.set_cons_succ]
                    refine all_take 3 (v := ?_) rfl (by kernel_rfl) (FlowsIf.read (by rfl) ?_) hex ?_
                    rotate_left
                    focus (intro w' hSw; obtain ⟨hb6, ⟨z0, z1, z2, z3, z4, z5, z6, zl⟩, hx2, hx1, hxl⟩ := hSw; go_simp; try (with_reducible rfl))
                    try simp only [Act.put, List.setIfInBounds_toArray, List.set_cons_zero, List.set_cons_succ]
                    refine all_take 4 (v := ?_) rfl (by kernel_rfl) (FlowsIf.read (by rfl) ?_) hex ?_
                    rotate_left
                    focus (intro w' hSw; obtain ⟨hb6, ⟨z0, z1, z2, z3, z4, z5, z6, zl⟩, hx2, hx1, hxl⟩ := hSw; go_simp; try (with_reducible rfl))
                    try simp only [Act.put, List.setIfInBounds_toArray, List.set_cons_zero, List.set_cons_succ]
                    refine all_take 5 (v := ?_) rfl (by kernel_rfl) (FlowsIf.read (by rfl) ?_) hex ?_
                    rotate_left
                    focus (intro w' hSw; obtain ⟨hb6, ⟨z0, z1, z2, z3, z4, z5, z6, zl⟩, hx2, hx1, hxl⟩ := hSw; go_simp; try (with_reducible rfl))
                    try simp only [Act.put, List.setIfInBounds_toArray, List.set_cons_zero, List.set_cons_succ]
                    refine all_take 6 (v := ?_) rfl (by kernel_rfl) (FlowsIf.read (by rfl) ?_) hex ?_
                    rotate_left
                    focus (intro w' hSw; obtain ⟨hb6, ⟨z0, z1, z2, z3, z4, z5, z6, zl⟩, hx2, hx1, hxl⟩ := hSw; go_simp; try (with_reducible rfl))
                    try simp only [Act.put, List.setIfInBounds_toArray, List.set_cons_zero, List.set_cons_succ]
                    refine all_take 7 (v := ?_) rfl (by kernel_rfl) (FlowsIf.call (f := 44) (args := ?_) (by rfl) ?_ ?_) hex ?_
                    rotate_left 2
                    focus (intro w'; go_simp; try (with_reducible rfl))
                    focus (exact H44.out)
                    try simp only [Act.put, List.setIfInBounds_toArray, List.set_cons_zero, List.set_cons_succ]
                    refine all_take 8 (v := ?_) rfl (by kernel_rfl) (FlowsIf.read (by rfl) ?_) hex ?_
                    rotate_left
                    focus (intro w' hSw; obtain ⟨hb6, ⟨z0, z1, z2, z3, z4, z5, z6, zl⟩, hx2, hx1, hxl⟩ := hSw; go_simp; try (with_reducible rfl))
                    try simp only [Act.put, List.setIfInBounds_toArray, List.set_cons_zero, List.set_cons_succ]
                    refine all_take 9 (v := ?_) rfl (by kernel_rfl) (FlowsIf.read (by rfl) ?_) hex ?_
                    rotate_left
                    focus (intro w' hSw; obtain ⟨hb6, ⟨z0, z1, z2, z3, z4, z5, z6, zl⟩, hx2, hx1, hxl⟩ := hSw; go_simp; try (with_reducible rfl))
                    try simp only [Act.put, List.setIfInBounds_toArray, List.set_cons_zero, List.set_cons_succ]
                    refine all_take 10 (v := ?_) rfl (by kernel_rfl) (FlowsIf.read (by rfl) ?_) hex ?_
                    rotate_left
                    focus (intro w' hSw; obtain ⟨hb6, ⟨z0, z1, z2, z3, z4, z5, z6, zl⟩, hx2, hx1, hxl⟩ := hSw; go_simp; try (with_reducible rfl))
                    try simp only [Act.put, List.setIfInBounds_toArray, List.set_cons_zero, List.set_cons_succ]
                    refine all_take 11 (v := ?_) rfl (by kernel_rfl) (FlowsIf.read (by rfl) ?_) hex ?_
                    rotate_left
                    focus (intro w' hSw; obtain ⟨hb6, ⟨z0, z1, z2, z3, z4, z5, z6, zl⟩, hx2, hx1, hxl⟩ := hSw; go_simp; try (with_reducible rfl))
                    try simp only [Act.put, List.setIfInBounds_toArray, List.set_cons_zero, List.set_cons_succ]
                    refine all_take 12 (v := ?_) rfl (by kernel_rfl) (FlowsIf.read (by rfl) ?_) hex ?_
                    rotate_left
                    focus (intro w' hSw; obtain ⟨hb6, ⟨z0, z1, z2, z3, z4, z5, z6, zl⟩, hx2, hx1, hxl⟩ := hSw; go_simp; try (with_reducible rfl))
                    try simp only [Act.put, List.setIfInBounds_toArray, List.set_cons_zero, List.set_cons_succ]
                    refine all_take 13 (v := ?_) rfl (by kernel_rfl) (FlowsIf.read (by rfl) ?_) hex ?_
                    rotate_left
                    focus (intro w' hSw; obtain ⟨hb6, ⟨z0, z1, z2, z3, z4, z5, z6, zl⟩, hx2, hx1, hxl⟩ := hSw; go_simp; try (with_reducible rfl))
                    try simp only [Act.put, List.setIfInBounds_toArray, List.set_cons_zero, List.set_cons_succ]
                    refine all_take 14 (v := ?_) rfl (by kernel_rfl) (FlowsIf.read (by rfl) ?_) hex ?_
                    rotate_left
                    focus (intro w' hSw; obtain ⟨hb6, ⟨z0, z1, z2, z3, z4, z5, z6, zl⟩, hx2, hx1, hxl⟩ := hSw; go_simp; try (with_reducible rfl))
                    try simp only [Act.put, List.setIfInBounds_toArray, List.set_cons_zero, List.set_cons_succ]
                    refine all_take 15 (v := ?_) rfl (by kernel_rfl) (FlowsIf.read (by rfl) ?_) hex ?_
                    rotate_left
                    focus (intro w' hSw; obtain ⟨hb6, ⟨z0, z1, z2, z3, z4, z5, z6, zl⟩, hx2, hx1, hxl⟩ := hSw; go_simp; try (with_reducible rfl))
                    try simp only [Act.put, List.setIfInBounds_toArray, List.set_cons_zero, List.set_cons_succ]
                    refine all_take 16 (v := ?_) rfl (by kernel_rfl) (FlowsIf.read (by rfl) ?_) hex ?_
                    rotate_left
                    focus (intro w' hSw; obtain ⟨hb6, ⟨z0, z1, z2, z3, z4, z5, z6, zl⟩, hx2, hx1, hxl⟩ := hSw; go_simp; try (with_reducible rfl))
                    try simp only [Act.put, List.setIfInBounds_toArray, List.set_cons_zero, List.set_cons_succ]
                    refine all_take 17 (v := ?_) rfl (by kernel_rfl) (FlowsIf.call (f := 45) (args := ?_) (by rfl) ?_ ?_) hex ?_
                    rotate_left 2
                    focus (intro w'; go_simp; try (with_reducible rfl))
                    focus (exact H45.out)
                    try simp only [Act.put, List.setIfInBounds_toArray, List.set_cons_zero, List.set_cons_succ]
                    refine all_take 18 (v := ?_) rfl (by kernel_rfl) (FlowsIf.read (by rfl) ?_) hex ?_
                    rotate_left
                    focus (intro w' hSw; obtain ⟨hb6, ⟨z0, z1, z2, z3, z4, z5, z6, zl⟩, hx2, hx1, hxl⟩ := hSw; go_simp; try (with_reducible rfl))
                    try simp only [Act.put, List.setIfInBounds_toArray, List.set_cons_zero, List.set_cons_succ]
                    refine all_take 19 (v := ?_) rfl (by kernel_rfl) (FlowsIf.read (by rfl) ?_) hex ?_
                    rotate_left
                    focus (intro w' hSw; obtain ⟨hb6, ⟨z0, z1, z2, z3, z4, z5, z6, zl⟩, hx2, hx1, hxl⟩ := hSw; go_simp; try (with_reducible rfl))
                    try simp only [Act.put, List.setIfInBounds_toArray, List.set_cons_zero, List.set_cons_succ]
                    refine all_take 20 (v := ?_) rfl (by kernel_rfl) (FlowsIf.read (by rfl) ?_) hex ?_
                    rotate_left
                    focus (intro w' hSw; obtain ⟨hb6, ⟨z0, z1, z2, z3, z4, z5, z6, zl⟩, hx2, hx1, hxl⟩ := hSw; go_simp; try (with_reducible rfl))
                    try simp only [Act.put, List.setIfInBounds_toArray, List.set_cons_zero, List.set_cons_succ]
                    refine all_take 21 (v := ?_) rfl (by kernel_rfl) (FlowsIf.read (by rfl) ?_) hex ?_
                    rotate_left
                    focus (intro w' hSw; obtain ⟨hb6, ⟨z0, z1, z2, z3, z4, z5, z6, zl⟩, hx2, hx1, hxl⟩ := hSw; go_simp; try (with_reducible rfl))
                    try simp only [Act.put, List.setIfInBounds_toArray, List.set_cons_zero, List.set_cons_succ]
                    refine all_take 22 (v := ?_) rfl (by kernel_rfl) (FlowsIf.read (by rfl) ?_) hex ?_
                    rotate_left
                    focus (intro w' hSw; obtain ⟨hb6, ⟨z0, z1, z2, z3, z4, z5, z6, zl⟩, hx2, hx1, hxl⟩ := hSw; go_simp; try (with_reducible rfl))
                    try simp only [Act.put, List.setIfInBounds_toArray, List.set_cons_zero, List.set_cons_succ]
                    refine all_take 23 (v := ?_) rfl (by kernel_rfl) (FlowsIf.read (by rfl) ?_) hex ?_
                    rotate_left
                    focus (intro w' hSw; obtain ⟨hb6, ⟨z0, z1, z2, z3, z4, z5, z6, zl⟩, hx2, hx1, hxl⟩ := hSw; go_simp; try (with_reducible rfl))
                    try simp only [Act.put, List.setIfInBounds_toArray, List.set_cons_zero, List.set_cons_succ]
                    refine all_stop (by kernel_rfl) ?_
                    intro W3 hS3
                    refine till_done (by kernel_rfl) ?_
                    have HS3 := Lib.hid hS3
                    clear hS3
                    obtain ⟨hb6, ⟨z0, z1, z2, z3, z4, z5, z6, zl⟩, hx2, hx1, hxl⟩ := HS3.out
                    go_wp2_with (first | (go_at_call 45; refine (H45.out _ HS3.out).mono ?_; rintro e W4 ⟨rfl, hS4⟩; have HS4 := Lib.hid hS4; obtain ⟨hb64, -, -, hx14, hxl4⟩ := hS4; have hxf4 := (HT1.out.2.1.keep hb64 HT1.out.2.1.lt).free 1; clear hb64) | fail)
                    go_tidy
                    have hb6 := HS4.out.1
                    obtain ⟨r1, r2, r3, r4, r5, r6, r7, -⟩ := HT1.out
                    have ks : ∀ j, j ≠ x → (W4.setCell ⟨x, 1, none⟩ (.int .u64 sv)).heap[j]? = W4.heap[j]? := fun j hj => Below.heap_setCell _ _ _ j (by simpa using hj)
                    have := HH.out.told HY.out.1 H1.out H2.out HT.out.1 HT.out.2 (W := W4.setCell ⟨x, 1, none⟩ (.int .u64 sv))
                      (ownsRow_keep (own_belowW r1 hb6) fun j hj => ks j fun e => HH.out.lx (by rw [← e]; exact hj))
                      (by rw [HCL.out, ← HSV.out, show max S.clock sv = sv by omega]; exact (r2.keep hb6 r2.lt).set 1 _)
                      (by rw [← r3]; simpa using hb6.size) (fun j hj h1 h2 => by rw [ks j h2, hb6.block j (by omega), r4 j h1]) (hb6.os.trans r5) (hb6.tape.trans r6) (hb6.output.trans r7)
                    exact END.out _ _ _ this.1 (RStep.after HB2.out this.2)
                  · have hgtb : decide (S.clock < sv) = false := decide_eq_false hgt
                    refine all_start (RLF W2 lk (i * 7) x (setKn y.1 2 t, y.2) (.slice (some ⟨lk, 0, none⟩) L.length lc) (.int .u64 S.clock)) 24 (by kernel_rfl) (hS0) ?_
                    show AllTill _ _ _ _ _ _ 24 (Array.replicate 24 false) _
                    refine all_take 0 (v := ?_) rfl (by kernel_rfl) (FlowsIf.read (by rfl) ?_) hex ?_
                    rotate_left
                    focus (intro w' hSw; obtain ⟨hb6, ⟨z0, z1, z2, z3, z4, z5, z6, zl⟩, hx2, hx1, hxl⟩ := hSw; go_simp; try (with_reducible rfl))
                    try simp only [Act.put, List.setIfInBounds_toArray, List.set_cons_zero, List.set_cons_succ]
                    refine all_take 1 (v := ?_) rfl (by kernel_rfl) (FlowsIf.read (by rfl) ?_) hex ?_
                    rotate_left
                    focus (intro w' hSw; obtain ⟨hb6, ⟨z0, z1, z2, z3, z4, z5, z6, zl⟩, hx2, hx1, hxl⟩ := hSw; go_simp; try (with_reducible rfl))
                    try simp only [Act.put, List.setIfInBounds_toArray, List.set_cons_zero, List.set_cons_succ]
                    refine all_take 2 (v := ?_) rfl (by kernel_rfl) (FlowsIf.read (by rfl) ?_) hex ?_
                    rotate_left
                    focus (intro w' hSw; obtain ⟨hb6, ⟨z0, z1, z2, z3, z4, z5, z6, zl⟩, hx2, hx1, hxl⟩ := hSw; go_simp; try (with_reducible rfl))
                    try simp only [Act.put, List.setIfInBounds_toArray, List.set_cons_zero, List.set_cons_succ]
                    refine all_take 3 (v := ?_) rfl (by kernel_rfl) (FlowsIf.read (by rfl) ?_) hex ?_
                    rotate_left
                    focus (intro w' hSw; obtain ⟨hb6, ⟨z0, z1, z2, z3, z4, z5, z6, zl⟩, hx2, hx1, hxl⟩ := hSw; go_simp; try (with_reducible rfl))
                    try simp only [Act.put, List.setIfInBounds_toArray, List.set_cons_zero, List.set_cons_succ]
                    refine all_take 4 (v := ?_) rfl (by kernel_rfl) (FlowsIf.read (by rfl) ?_) hex ?_
                    rotate_left
                    focus (intro w' hSw; obtain ⟨hb6, ⟨z0, z1, z2, z3, z4, z5, z6, zl⟩, hx2, hx1, hxl⟩ := hSw; go_simp; try (with_reducible rfl))
                    try simp only [Act.put, List.setIfInBounds_toArray, List.set_cons_zero, List.set_cons_succ]
                    refine all_take 5 (v := ?_) rfl (by kernel_rfl) (FlowsIf.read (by rfl) ?_) hex ?_
                    rotate_left
                    focus (intro w' hSw; obtain ⟨hb6, ⟨z0, z1, z2, z3, z4, z5, z6, zl⟩, hx2, hx1, hxl⟩ := hSw; go_simp; try (with_reducible rfl))
                    try simp only [Act.put, List.setIfInBounds_toArray, List.set_cons_zero, List.set_cons_succ]
                    refine all_take 6 (v := ?_) rfl (by kernel_rfl) (FlowsIf.read (by rfl) ?_) hex ?_
                    rotate_left
                    focus (intro w' hSw; obtain ⟨hb6, ⟨z0, z1, z2, z3, z4, z5, z6, zl⟩, hx2, hx1, hxl⟩ := hSw; go_simp; try (with_reducible rfl))
                    try simp only [Act.put, List.setIfInBounds_toArray, List.set_cons_zero, List.set_cons_succ]
                    refine all_take 7 (v := ?_) rfl (by kernel_rfl) (FlowsIf.call (f := 44) (args := ?_) (by rfl) ?_ ?_) hex ?_
                    rotate_left 2
                    focus (intro w'; go_simp; try (with_reducible rfl))
                    focus (exact H44.out)
                    try simp only [Act.put, List.setIfInBounds_toArray, List.set_cons_zero, List.set_cons_succ]
                    refine all_take 8 (v := ?_) rfl (by kernel_rfl) (FlowsIf.read (by rfl) ?_) hex ?_
                    rotate_left
                    focus (intro w' hSw; obtain ⟨hb6, ⟨z0, z1, z2, z3, z4, z5, z6, zl⟩, hx2, hx1, hxl⟩ := hSw; go_simp; try (with_reducible rfl))
                    try simp only [Act.put, List.setIfInBounds_toArray, List.set_cons_zero, List.set_cons_succ]
                    refine all_take 9 (v := ?_) rfl (by kernel_rfl) (FlowsIf.read (by rfl) ?_) hex ?_
                    rotate_left
                    focus (intro w' hSw; obtain ⟨hb6, ⟨z0, z1, z2, z3, z4, z5, z6, zl⟩, hx2, hx1, hxl⟩ := hSw; go_simp; try (with_reducible rfl))
                    try simp only [Act.put, List.setIfInBounds_toArray, List.set_cons_zero, List.set_cons_succ]
                    refine all_take 10 (v := ?_) rfl (by kernel_rfl) (FlowsIf.read (by rfl) ?_) hex ?_
                    rotate_left
                    focus (intro w' hSw; obtain ⟨hb6, ⟨z0, z1, z2, z3, z4, z5, z6, zl⟩, hx2, hx1, hxl⟩ := hSw; go_simp; try (with_reducible rfl))
                    try simp only [Act.put, List.setIfInBounds_toArray, List.set_cons_zero, List.set_cons_succ]
                    refine all_take 11 (v := ?_) rfl (by kernel_rfl) (FlowsIf.read (by rfl) ?_) hex ?_
                    rotate_left
                    focus (intro w' hSw; obtain ⟨hb6, ⟨z0, z1, z2, z3, z4, z5, z6, zl⟩, hx2, hx1, hxl⟩ := hSw; go_simp; try (with_reducible rfl))
                    try simp only [Act.put, List.setIfInBounds_toArray, List.set_cons_zero, List.set_cons_succ]
                    refine all_take 12 (v := ?_) rfl (by kernel_rfl) (FlowsIf.read (by rfl) ?_) hex ?_
                    rotate_left
                    focus (intro w' hSw; obtain ⟨hb6, ⟨z0, z1, z2, z3, z4, z5, z6, zl⟩, hx2, hx1, hxl⟩ := hSw; go_simp; try (with_reducible rfl))
                    try simp only [Act.put, List.setIfInBounds_toArray, List.set_cons_zero, List.set_cons_succ]
                    refine all_take 13 (v := ?_) rfl (by kernel_rfl) (FlowsIf.read (by rfl) ?_) hex ?_
                    rotate_left
                    focus (intro w' hSw; obtain ⟨hb6, ⟨z0, z1, z2, z3, z4, z5, z6, zl⟩, hx2, hx1, hxl⟩ := hSw; go_simp; try (with_reducible rfl))
                    try simp only [Act.put, List.setIfInBounds_toArray, List.set_cons_zero, List.set_cons_succ]
                    refine all_take 14 (v := ?_) rfl (by kernel_rfl) (FlowsIf.read (by rfl) ?_) hex ?_
                    rotate_left
                    focus (intro w' hSw; obtain ⟨hb6, ⟨z0, z1, z2, z3, z4, z5, z6, zl⟩, hx2, hx1, hxl⟩ := hSw; go_simp; try (with_reducible rfl))
                    try simp only [Act.put, List.setIfInBounds_toArray, List.set_cons_zero, List.set_cons_succ]
                    refine all_take 15 (v := ?_) rfl (by kernel_rfl) (FlowsIf.read (by rfl) ?_) hex ?_
                    rotate_left
                    focus (intro w' hSw; obtain ⟨hb6, ⟨z0, z1, z2, z3, z4, z5, z6, zl⟩, hx2, hx1, hxl⟩ := hSw; go_simp; try (with_reducible rfl))
                    try simp only [Act.put, List.setIfInBounds_toArray, List.set_cons_zero, List.set_cons_succ]
                    refine all_take 16 (v := ?_) rfl (by kernel_rfl) (FlowsIf.read (by rfl) ?_) hex ?_
                    rotate_left
                    focus (intro w' hSw; obtain ⟨hb6, ⟨z0, z1, z2, z3, z4, z5, z6, zl⟩, hx2, hx1, hxl⟩ := hSw; go_simp; try (with_reducible rfl))
                    try simp only [Act.put, List.setIfInBounds_toArray, List.set_cons_zero, List.set_cons_succ]
                    refine all_take 17 (v := ?_) rfl (by kernel_rfl) (FlowsIf.call (f := 45) (args := ?_) (by rfl) ?_ ?_) hex ?_
                    rotate_left 2
                    focus (intro w'; go_simp; try (with_reducible rfl))
                    focus (exact H45.out)
                    try simp only [Act.put, List.setIfInBounds_toArray, List.set_cons_zero, List.set_cons_succ]
                    refine all_take 18 (v := ?_) rfl (by kernel_rfl) (FlowsIf.read (by rfl) ?_) hex ?_
                    rotate_left
                    focus (intro w' hSw; obtain ⟨hb6, ⟨z0, z1, z2, z3, z4, z5, z6, zl⟩, hx2, hx1, hxl⟩ := hSw; go_simp; try (with_reducible rfl))
                    try simp only [Act.put, List.setIfInBounds_toArray, List.set_cons_zero, List.set_cons_succ]
                    refine all_take 19 (v := ?_) rfl (by kernel_rfl) (FlowsIf.read (by rfl) ?_) hex ?_
                    rotate_left
                    focus (intro w' hSw; obtain ⟨hb6, ⟨z0, z1, z2, z3, z4, z5, z6, zl⟩, hx2, hx1, hxl⟩ := hSw; go_simp; try (with_reducible rfl))
                    try simp only [Act.put, List.setIfInBounds_toArray, List.set_cons_zero, List.set_cons_succ]
                    refine all_take 20 (v := ?_) rfl (by kernel_rfl) (FlowsIf.read (by rfl) ?_) hex ?_
                    rotate_left
                    focus (intro w' hSw; obtain ⟨hb6, ⟨z0, z1, z2, z3, z4, z5, z6, zl⟩, hx2, hx1, hxl⟩ := hSw; go_simp; try (with_reducible rfl))
                    try simp only [Act.put, List.setIfInBounds_toArray, List.set_cons_zero, List.set_cons_succ]
                    refine all_take 21 (v := ?_) rfl (by kernel_rfl) (FlowsIf.read (by rfl) ?_) hex ?_
                    rotate_left
                    focus (intro w' hSw; obtain ⟨hb6, ⟨z0, z1, z2, z3, z4, z5, z6, zl⟩, hx2, hx1, hxl⟩ := hSw; go_simp; try (with_reducible rfl))
                    try simp only [Act.put, List.setIfInBounds_toArray, List.set_cons_zero, List.set_cons_succ]
                    refine all_take 22 (v := ?_) rfl (by kernel_rfl) (FlowsIf.read (by rfl) ?_) hex ?_
                    rotate_left
                    focus (intro w' hSw; obtain ⟨hb6, ⟨z0, z1, z2, z3, z4, z5, z6, zl⟩, hx2, hx1, hxl⟩ := hSw; go_simp; try (with_reducible rfl))
                    try simp only [Act.put, List.setIfInBounds_toArray, List.set_cons_zero, List.set_cons_succ]
                    refine all_take 23 (v := ?_) rfl (by kernel_rfl) (FlowsIf.read (by rfl) ?_) hex ?_
                    rotate_left
                    focus (intro w' hSw; obtain ⟨hb6, ⟨z0, z1, z2, z3, z4, z5, z6, zl⟩, hx2, hx1, hxl⟩ := hSw; go_simp; try (with_reducible rfl))
                    try simp only [Act.put, List.setIfInBounds_toArray, List.set_cons_zero, List.set_cons_succ]
                    refine all_stop (by kernel_rfl) ?_
                    intro W3 hS3
                    refine till_done (by kernel_rfl) ?_
                    have HS3 := Lib.hid hS3
                    clear hS3
                    go_wp2
                    go_tidy
                    exact HDONE.out _ HS3.out.1 (by rw [HCL.out, ← HSV.out]; omega)
              · go_upto_region 9 with (first | (go_at_call 38; refine H38.out.mono ?_; rintro e w1 ⟨rfl, rfl⟩) | fail)
                generalize hW2 : World.setCell _ _ _ = W2
                have ht1 := HH.out.told1 HY.out.1 (k := 3) (t := t) 3 rfl (by omega) (W := W2) (by rw [← hW2])
                have HT1 := Lib.hid ht1
                clear hW2 y0 y1 y2 y3 y4 y5 y6 yl x0 x2 xl lfr h3b h4b h0b ht1
                have hSI : ∀ W, Below W2.heap.size W2 W → RLF W2 lk (i * 7) x (setKn y.1 3 t, y.2) (.slice (some ⟨lk, 0, none⟩) L.length lc) (.int .u64 S.clock) W := fun W hb => by
                  have hy' : (L.set i (setKn y.1 3 t, y.2))[i]? = some (setKn y.1 3 t, y.2) := by rw [List.getElem?_set_self hil]
                  obtain ⟨r1, r2, -⟩ := HT1.out
                  have r1' := own_belowW r1 hb
                  rw [show Value.slice (some ⟨lk, 0, none⟩) L.length lc = Value.slice (some ⟨lk, 0, none⟩) (L.set i (setKn y.1 3 t, y.2)).length lc by rw [List.length_set]] at r1'
                  have r2' := r2.keep hb r2.lt
                  exact ⟨hb, CellsR.of r1' hy', r2'.cell (j := 2) rfl, r2'.cell (j := 1) rfl, r2'.lt⟩
                have h44 : ∀ W, RLF W2 lk (i * 7) x (setKn y.1 3 t, y.2) (.slice (some ⟨lk, 0, none⟩) L.length lc) (.int .u64 S.clock) W → Calls Try.prog 44 #[oneV (setKn y.1 3 t, y.2)] W fun e w' => e = .returned (.bool (final (setKn y.1 3 t))) ∧ RLF W2 lk (i * 7) x (setKn y.1 3 t, y.2) (.slice (some ⟨lk, 0, none⟩) L.length lc) (.int .u64 S.clock) w' := fun W hb => by
                  refine (c44 (HT1.out.2.2.2.2.2.2.2.below hb.1)).mono ?_
                  rintro e w' ⟨rfl, h2⟩
                  exact ⟨rfl, hSI w' (hb.1.trans (h2.mono hb.1.size))⟩
                have h45 : ∀ W, RLF W2 lk (i * 7) x (setKn y.1 3 t, y.2) (.slice (some ⟨lk, 0, none⟩) L.length lc) (.int .u64 S.clock) W → Calls Try.prog 45 #[.pointer (some ⟨x, 0, none⟩), oneV (setKn y.1 3 t, y.2)] W fun e w' => e = .returned (.int .u64 (stampS g (setKn y.1 3 t))) ∧ RLF W2 lk (i * 7) x (setKn y.1 3 t, y.2) (.slice (some ⟨lk, 0, none⟩) L.length lc) (.int .u64 S.clock) w' := fun W hb => by
                  refine (c45 (HT1.out.2.1.keep hb.1 HT1.out.2.1.lt) HH.out.g0 (HT1.out.2.2.2.2.2.2.2.below hb.1)).mono ?_
                  rintro e w' ⟨rfl, h2⟩
                  exact ⟨rfl, hSI w' (hb.1.trans (h2.mono hb.1.size))⟩
                have H44 := Lib.hid h44
                have H45 := Lib.hid h45
                have hS0 := hSI W2.drew (Below.refl _ _).drew
                have hex := Exists.intro _ hS0
                have HSI := Lib.hid hSI
                clear hSI h44 h45
                unfold oneV at H44 H45
                -- what is left at the end
                have hdone : ∀ W, Below W2.heap.size W2 W → clockL g S (setKn y.1 3 t) = S.clock → R (.returned (.int .i64 0)) W := fun W hb hc => by
                  obtain ⟨r1, r2, r3, r4, r5, r6, r7, -⟩ := HT1.out
                  have := HH.out.told HY.out.1 H1.out H2.out HT.out.1 HT.out.2 (W := W) (own_belowW r1 hb) (by rw [hc]; exact r2.keep hb r2.lt) (by rw [← r3]; exact hb.size) (fun j hj h1 _ => by rw [hb.block j (by omega), r4 j h1]) (hb.os.trans r5) (hb.tape.trans r6) (hb.output.trans r7)
                  exact END.out W _ _ this.1 (RStep.after HB2.out this.2)
                have HDONE := Lib.hid hdone
                clear hdone
                cases hfin : final (setKn y.1 3 t) with
                | false =>
                  have hcl : clockL g S (setKn y.1 3 t) = S.clock := by unfold clockL; rw [hfin]; rfl
                  rw [hfin] at H44
                  have HCL := Lib.hid hcl
                  clear hfin hcl
                  refine all_start (RLF W2 lk (i * 7) x (setKn y.1 3 t, y.2) (.slice (some ⟨lk, 0, none⟩) L.length lc) (.int .u64 S.clock)) 24 (by kernel_rfl) (hS0) ?_
                  show AllTill _ _ _ _ _ _ 24 (Array.replicate 24 false) _
                  refine all_take 0 (v := ?_) rfl (by kernel_rfl) (FlowsIf.read (by rfl) ?_) hex ?_
                  rotate_left
                  focus (intro w' hSw; obtain ⟨hb6, ⟨z0, z1, z2, z3, z4, z5, z6, zl⟩, hx2, hx1, hxl⟩ := hSw; go_simp; try (with_reducible rfl))
                  try simp only [Act.put, List.setIfInBounds_toArray, List.set_cons_zero, List.set_cons_succ]
                  refine all_take 1 (v := ?_) rfl (by kernel_rfl) (FlowsIf.read (by rfl) ?_) hex ?_
                  rotate_left
                  focus (intro w' hSw; obtain ⟨hb6, ⟨z0, z1, z2, z3, z4, z5, z6, zl⟩, hx2, hx1, hxl⟩ := hSw; go_simp; try (with_reducible rfl))
                  try simp only [Act.put, List.setIfInBounds_toArray, List.set_cons_zero, List.set_cons_succ]
                  refine all_take 2 (v := ?_) rfl (by kernel_rfl) (FlowsIf.read (by rfl) ?_) hex ?_
                  rotate_left
                  focus (intro w' hSw; obtain ⟨hb6, ⟨z0, z1, z2, z3, z4, z5, z6, zl⟩, hx2, hx1, hxl⟩ := hSw; go_simp; try (with_reducible rfl))
                  try simp only [Act.put, List.setIfInBounds_toArray, List.set_cons_zero, List.set_cons_succ]
                  refine all_take 3 (v := ?_) rfl (by kernel_rfl) (FlowsIf.read (by rfl) ?_) hex ?_
                  rotate_left
                  focus (intro w' hSw; obtain ⟨hb6, ⟨z0, z1, z2, z3, z4, z5, z6, zl⟩, hx2, hx1, hxl⟩ := hSw; go_simp; try (with_reducible rfl))
                  try simp only [Act.put, List.setIfInBounds_toArray, List.set_cons_zero, List.set_cons_succ]
                  refine all_take 4 (v := ?_) rfl (by kernel_rfl) (FlowsIf.read (by rfl) ?_) hex ?_
                  rotate_left
                  focus (intro w' hSw; obtain ⟨hb6, ⟨z0, z1, z2, z3, z4, z5, z6, zl⟩, hx2, hx1, hxl⟩ := hSw; go_simp; try (with_reducible rfl))
                  try simp only [Act.put, List.setIfInBounds_toArray, List.set_cons_zero, List.set_cons_succ]
                  refine all_take 5 (v := ?_) rfl (by kernel_rfl) (FlowsIf.read (by rfl) ?_) hex ?_
                  rotate_left
                  focus (intro w' hSw; obtain ⟨hb6, ⟨z0, z1, z2, z3, z4, z5, z6, zl⟩, hx2, hx1, hxl⟩ := hSw; go_simp; try (with_reducible rfl))
                  try simp only [Act.put, List.setIfInBounds_toArray, List.set_cons_zero, List.set_cons_succ]
                  refine all_take 6 (v := ?_) rfl (by kernel_rfl) (FlowsIf.read (by rfl) ?_) hex ?_
                  rotate_left
                  focus (intro w' hSw; obtain ⟨hb6, ⟨z0, z1, z2, z3, z4, z5, z6, zl⟩, hx2, hx1, hxl⟩ := hSw; go_simp; try (with_reducible rfl))
                  try simp only [Act.put, List.setIfInBounds_toArray, List.set_cons_zero, List.set_cons_succ]
                  refine all_take 7 (v := ?_) rfl (by kernel_rfl) (FlowsIf.call (f := 44) (args := ?_) (by rfl) ?_ ?_) hex ?_
                  rotate_left 2
                  focus (intro w'; go_simp; try (with_reducible rfl))
                  focus (exact H44.out)
                  try simp only [Act.put, List.setIfInBounds_toArray, List.set_cons_zero, List.set_cons_succ]
                  refine all_take 8 (v := ?_) rfl (by kernel_rfl) (FlowsIf.read (by rfl) ?_) hex ?_
                  rotate_left
                  focus (intro w' hSw; obtain ⟨hb6, ⟨z0, z1, z2, z3, z4, z5, z6, zl⟩, hx2, hx1, hxl⟩ := hSw; go_simp; try (with_reducible rfl))
                  try simp only [Act.put, List.setIfInBounds_toArray, List.set_cons_zero, List.set_cons_succ]
                  refine all_take 9 rfl (by kernel_rfl) (FlowsIf.skip (by rfl)) hex ?_
                  try simp only [Act.put, List.setIfInBounds_toArray, List.set_cons_zero, List.set_cons_succ]
                  refine all_take 10 rfl (by kernel_rfl) (FlowsIf.skip (by rfl)) hex ?_
                  try simp only [Act.put, List.setIfInBounds_toArray, List.set_cons_zero, List.set_cons_succ]
                  refine all_take 11 rfl (by kernel_rfl) (FlowsIf.skip (by rfl)) hex ?_
                  try simp only [Act.put, List.setIfInBounds_toArray, List.set_cons_zero, List.set_cons_succ]
                  refine all_take 12 rfl (by kernel_rfl) (FlowsIf.skip (by rfl)) hex ?_
                  try simp only [Act.put, List.setIfInBounds_toArray, List.set_cons_zero, List.set_cons_succ]
                  refine all_take 13 rfl (by kernel_rfl) (FlowsIf.skip (by rfl)) hex ?_
                  try simp only [Act.put, List.setIfInBounds_toArray, List.set_cons_zero, List.set_cons_succ]
                  refine all_take 14 rfl (by kernel_rfl) (FlowsIf.skip (by rfl)) hex ?_
                  try simp only [Act.put, List.setIfInBounds_toArray, List.set_cons_zero, List.set_cons_succ]
                  refine all_take 15 rfl (by kernel_rfl) (FlowsIf.skip (by rfl)) hex ?_
                  try simp only [Act.put, List.setIfInBounds_toArray, List.set_cons_zero, List.set_cons_succ]
                  refine all_take 16 rfl (by kernel_rfl) (FlowsIf.skip (by rfl)) hex ?_
                  try simp only [Act.put, List.setIfInBounds_toArray, List.set_cons_zero, List.set_cons_succ]
                  refine all_take 17 rfl (by kernel_rfl) (FlowsIf.skip (by rfl)) hex ?_
                  try simp only [Act.put, List.setIfInBounds_toArray, List.set_cons_zero, List.set_cons_succ]
                  refine all_take 18 rfl (by kernel_rfl) (FlowsIf.skip (by rfl)) hex ?_
                  try simp only [Act.put, List.setIfInBounds_toArray, List.set_cons_zero, List.set_cons_succ]
                  refine all_take 19 rfl (by kernel_rfl) (FlowsIf.skip (by rfl)) hex ?_
                  try simp only [Act.put, List.setIfInBounds_toArray, List.set_cons_zero, List.set_cons_succ]
                  refine all_take 20 rfl (by kernel_rfl) (FlowsIf.skip (by rfl)) hex ?_
                  try simp only [Act.put, List.setIfInBounds_toArray, List.set_cons_zero, List.set_cons_succ]
                  refine all_take 21 rfl (by kernel_rfl) (FlowsIf.skip (by rfl)) hex ?_
                  try simp only [Act.put, List.setIfInBounds_toArray, List.set_cons_zero, List.set_cons_succ]
                  refine all_take 22 rfl (by kernel_rfl) (FlowsIf.skip (by rfl)) hex ?_
                  try simp only [Act.put, List.setIfInBounds_toArray, List.set_cons_zero, List.set_cons_succ]
                  refine all_take 23 (v := ?_) rfl (by kernel_rfl) (FlowsIf.read (by rfl) ?_) hex ?_
                  rotate_left
                  focus (intro w' hSw; obtain ⟨hb6, ⟨z0, z1, z2, z3, z4, z5, z6, zl⟩, hx2, hx1, hxl⟩ := hSw; go_simp; try (with_reducible rfl))
                  try simp only [Act.put, List.setIfInBounds_toArray, List.set_cons_zero, List.set_cons_succ]
                  refine all_stop (by kernel_rfl) ?_
                  intro W3 hS3
                  refine till_done (by kernel_rfl) ?_
                  have HS3 := Lib.hid hS3
                  clear hS3
                  go_wp2
                  go_tidy
                  exact HDONE.out _ HS3.out.1 HCL.out
                | true =>
                  have hcl : clockL g S (setKn y.1 3 t) = max S.clock (stampS g (setKn y.1 3 t)) := by unfold clockL; rw [hfin]; rfl
                  rw [hfin] at H44
                  have HCL := Lib.hid hcl
                  obtain ⟨sv, hsv⟩ : ∃ sv, sv = stampS g (setKn y.1 3 t) := ⟨_, rfl⟩
                  rw [← hsv] at H45
                  have HSV := Lib.hid hsv
                  clear hfin hcl hsv
                  by_cases hgt : S.clock < sv
                  · have hgtb : decide (S.clock < sv) = true := decide_eq_true hgt
                    refine all_start (RLF W2 lk (i * 7) x (setKn y.1 3 t, y.2) (.slice (some ⟨lk, 0, none⟩) L.length lc) (.int .u64 S.clock)) 24 (by kernel_rfl) (hS0) ?_
                    show AllTill _ _ _ _ _ _ 24 (Array.replicate 24 false) _
                    refine all_take 0 (v := ?_) rfl (by kernel_rfl) (FlowsIf.read (by rfl) ?_) hex ?_
                    rotate_left
                    focus (intro w' hSw; obtain ⟨hb6, ⟨z0, z1, z2, z3, z4, z5, z6, zl⟩, hx2, hx1, hxl⟩ := hSw; go_simp; try (with_reducible rfl))
                    try simp only [Act.put, List.setIfInBounds_toArray, List.set_cons_zero, List.set_cons_succ]
                    refine all_take 1 (v := ?_) rfl (by kernel_rfl) (FlowsIf.read (by rfl) ?_) hex ?_
                    rotate_left
                    focus (intro w' hSw; obtain ⟨hb6, ⟨z0, z1, z2, z3, z4, z5, z6, zl⟩, hx2, hx1, hxl⟩ := hSw; go_simp; try (with_reducible rfl))
                    try simp only [Act.put, List.setIfInBounds_toArray, List.set_cons_zero, List.set_cons_succ]
                    refine all_take 2 (v := ?_) rfl (by kernel_rfl) (FlowsIf.read (by rfl) ?_) hex ?_
                    rotate_left
                    focus (intro w' hSw; obtain ⟨hb6, ⟨z0, z1, z2, z3, z4, z5, z6, zl⟩, hx2, hx1, hxl⟩ := hSw; go_simp; try (with_reducible rfl))
                    try simp only [Act.put, List.setIfInBounds_toArray, List.set_cons_zero, List.set_cons_succ]
                    refine all_take 3 (v := ?_) rfl (by kernel_rfl) (FlowsIf.read (by rfl) ?_) hex ?_
                    rotate_left
                    focus (intro w' hSw; obtain ⟨hb6, ⟨z0, z1, z2, z3, z4, z5, z6, zl⟩, hx2, hx1, hxl⟩ := hSw; go_simp; try (with_reducible rfl))
                    try simp only [Act.put, List.setIfInBounds_toArray, List.set_cons_zero, List.set_cons_succ]
                    refine all_take 4 (v := ?_) rfl (by kernel_rfl) (FlowsIf.read (by rfl) ?_) hex ?_
                    rotate_left
                    focus (intro w' hSw; obtain ⟨hb6, ⟨z0, z1, z2, z3, z4, z5, z6, zl⟩, hx2, hx1, hxl⟩ := hSw; go_simp; try (with_reducible rfl))
                    try simp only [Act.put, List.setIfInBounds_toArray, List.set_cons_zero, List.set_cons_succ]
                    refine all_take 5 (v := ?_) rfl (by kernel_rfl) (FlowsIf.read (by rfl) ?_) hex ?_
                    rotate_left
                    focus (intro w' hSw; obtain ⟨hb6, ⟨z0, z1, z2, z3, z4, z5, z6, zl⟩, hx2, hx1, hxl⟩ := hSw; go_simp; try (with_reducible rfl))
                    try simp only [Act.put, List.setIfInBounds_toArray, List.set_cons_zero, List.set_cons_succ]
                    refine all_take 6 (v := ?_) rfl (by kernel_rfl) (FlowsIf.read (by rfl) ?_) hex ?_
                    rotate_left
                    focus (intro w' hSw; obtain ⟨hb6, ⟨z0, z1, z2, z3, z4, z5, z6, zl⟩, hx2, hx1, hxl⟩ := hSw; go_simp; try (with_reducible rfl))
                    try simp only [Act.put, List.setIfInBounds_toArray, List.set_cons_zero, List.set_cons_succ]
                    refine all_take 7 (v := ?_) rfl (by kernel_rfl) (FlowsIf.call (f := 44) (args := ?_) (by rfl) ?_ ?_) hex ?_
                    rotate_left 2
                    focus (intro w'; go_simp; try (with_reducible rfl))
                    focus (exact H44.out)
                    try simp only [Act.put, List.setIfInBounds_toArray, List.set_cons_zero, List.set_cons_succ]
                    refine all_take 8 (v := ?_) rfl (by kernel_rfl) (FlowsIf.read (by rfl) ?_) hex ?_
                    rotate_left
                    focus (intro w' hSw; obtain ⟨hb6, ⟨z0, z1, z2, z3, z4, z5, z6, zl⟩, hx2, hx1, hxl⟩ := hSw; go_simp; try (with_reducible rfl))
                    try simp only [Act.put, List.setIfInBounds_toArray, List.set_cons_zero, List.set_cons_succ]
                    refine all_take 9 (v := ?_) rfl (by kernel_rfl) (FlowsIf.read (by rfl) ?_) hex ?_
                    rotate_left
                    focus (intro w' hSw; obtain ⟨hb6, ⟨z0, z1, z2, z3, z4, z5, z6, zl⟩, hx2, hx1, hxl⟩ := hSw; go_simp; try (with_reducible rfl))
                    try simp only [Act.put, List.setIfInBounds_toArray, List.set_cons_zero, List.set_cons_succ]
                    refine all_take 10 (v := ?_) rfl (by kernel_rfl) (FlowsIf.read (by rfl) ?_) hex ?_
                    rotate_left
                    focus (intro w' hSw; obtain ⟨hb6, ⟨z0, z1, z2, z3, z4, z5, z6, zl⟩, hx2, hx1, hxl⟩ := hSw; go_simp; try (with_reducible rfl))
                    try simp only [Act.put, List.setIfInBounds_toArray, List.set_cons_zero, List.set_cons_succ]
                    refine all_take 11 (v := ?_) rfl (by kernel_rfl) (FlowsIf.read (by rfl) ?_) hex ?_
                    rotate_left
                    focus (intro w' hSw; obtain ⟨hb6, ⟨z0, z1, z2, z3, z4, z5, z6, zl⟩, hx2, hx1, hxl⟩ := hSw; go_simp; try (with_reducible rfl))
                    try simp only [Act.put, List.setIfInBounds_toArray, List.set_cons_zero, List.set_cons_succ]
                    refine all_take 12 (v := ?_) rfl (by kernel_rfl) (FlowsIf.read (by rfl) ?_) hex ?_
                    rotate_left
                    focus (intro w' hSw; obtain ⟨hb6, ⟨z0, z1, z2, z3, z4, z5, z6, zl⟩, hx2, hx1, hxl⟩ := hSw; go_simp; try (with_reducible rfl))
                    try simp only [Act.put, List.setIfInBounds_toArray, List.set_cons_zero, List.set_cons_succ]
                    refine all_take 13 (v := ?_) rfl (by kernel_rfl) (FlowsIf.read (by rfl) ?_) hex ?_
                    rotate_left
                    focus (intro w' hSw; obtain ⟨hb6, ⟨z0, z1, z2, z3, z4, z5, z6, zl⟩, hx2, hx1, hxl⟩ := hSw; go_simp; try (with_reducible rfl))
                    try simp only [Act.put, List.setIfInBounds_toArray, List.set_cons_zero, List.set_cons_succ]
                    refine all_take 14 (v := ?_) rfl (by kernel_rfl) (FlowsIf.read (by rfl) ?_) hex ?_
                    rotate_left
                    focus (intro w' hSw; obtain ⟨hb6, ⟨z0, z1, z2, z3, z4, z5, z6, zl⟩, hx2, hx1, hxl⟩ := hSw; go_simp; try (with_reducible rfl))
                    try simp only [Act.put, List.setIfInBounds_toArray, List.set_cons_zero, List.set_cons_succ]
                    refine all_take 15 (v := ?_) rfl (by kernel_rfl) (FlowsIf.read (by rfl) ?_) hex ?_
                    rotate_left
                    focus (intro w' hSw; obtain ⟨hb6, ⟨z0, z1, z2, z3, z4, z5, z6, zl⟩, hx2, hx1, hxl⟩ := hSw; go_simp; try (with_reducible rfl))
                    try simp only [Act.put, List.setIfInBounds_toArray, List.set_cons_zero, List.set_cons_succ]
                    refine all_take 16 (v := ?_) rfl (by kernel_rfl) (FlowsIf.read (by rfl) ?_) hex ?_
                    rotate_left
                    focus (intro w' hSw; obtain ⟨hb6, ⟨z0, z1, z2, z3, z4, z5, z6, zl⟩, hx2, hx1, hxl⟩ := hSw; go_simp; try (with_reducible rfl))
                    try simp only [Act.put, List.setIfInBounds_toArray, List.set_cons_zero, List.set_cons_succ]
                    refine all_take 17 (v := ?_) rfl (by kernel_rfl) (FlowsIf.call (f := 45) (args := ?_) (by rfl) ?_ ?_) hex ?_
                    rotate_left 2
                    focus (intro w'; go_simp; try (with_reducible rfl))
                    focus (exact H45.out)
                    try simp only [Act.put, List.setIfInBounds_toArray, List.set_cons_zero, List.set_cons_succ]
                    refine all_take 18 (v := ?_) rfl (by kernel_rfl) (FlowsIf.read (by rfl) ?_) hex ?_
                    rotate_left
                    focus (intro w' hSw; obtain ⟨hb6, ⟨z0, z1, z2, z3, z4, z5, z6, zl⟩, hx2, hx1, hxl⟩ := hSw; go_simp; try (with_reducible rfl))
                    try simp only [Act.put, List.setIfInBounds_toArray, List.set_cons_zero, List.set_cons_succ]
                    refine all_take 19 (v := ?_) rfl (by kernel_rfl) (FlowsIf.read (by rfl) ?_) hex ?_
                    rotate_left
                    focus (intro w' hSw; obtain ⟨hb6, ⟨z0, z1, z2, z3, z4, z5, z6, zl⟩, hx2, hx1, hxl⟩ := hSw; go_simp; try (with_reducible rfl))
                    try simp only [Act.put, List.setIfInBounds_toArray, List.set_cons_zero, List.set_cons_succ]
                    refine all_take 20 (v := ?_) rfl (by kernel_rfl) (FlowsIf.read (by rfl) ?_) hex ?_
                    rotate_left
                    focus (intro w' hSw; obtain ⟨hb6, ⟨z0, z1, z2, z3, z4, z5, z6, zl⟩, hx2, hx1, hxl⟩ := hSw; go_simp; try (with_reducible rfl))
                    try simp only [Act.put, List.setIfInBounds_toArray, List.set_cons_zero, List.set_cons_succ]
                    refine all_take 21 (v := ?_) rfl (by kernel_rfl) (FlowsIf.read (by rfl) ?_) hex ?_
                    rotate_left
                    focus (intro w' hSw; obtain ⟨hb6, ⟨z0, z1, z2, z3, z4, z5, z6, zl⟩, hx2, hx1, hxl⟩ := hSw; go_simp; try (with_reducible rfl))
                    try simp only [Act.put, List.setIfInBounds_toArray, List.set_cons_zero, List.set_cons_succ]
                    refine all_take 22 (v := ?_) rfl (by kernel_rfl) (FlowsIf.read (by rfl) ?_) hex ?_
                    rotate_left
                    focus (intro w' hSw; obtain ⟨hb6, ⟨z0, z1, z2, z3, z4, z5, z6, zl⟩, hx2, hx1, hxl⟩ := hSw; go_simp; try (with_reducible rfl))
                    try simp only [Act.put, List.setIfInBounds_toArray, List.set_cons_zero, List.set_cons_succ]
                    refine all_take 23 (v := ?_) rfl (by kernel_rfl) (FlowsIf.read (by rfl) ?_) hex ?_
                    rotate_left
                    focus (intro w' hSw; obtain ⟨hb6, ⟨z0, z1, z2, z3, z4, z5, z6, zl⟩, hx2, hx1, hxl⟩ := hSw; go_simp; try (with_reducible rfl))
                    try simp only [Act.put, List.setIfInBounds_toArray, List.set_cons_zero, List.set_cons_succ]
                    refine all_stop (by kernel_rfl) ?_
                    intro W3 hS3
                    refine till_done (by kernel_rfl) ?_
                    have HS3 := Lib.hid hS3
                    clear hS3
                    obtain ⟨hb6, ⟨z0, z1, z2, z3, z4, z5, z6, zl⟩, hx2, hx1, hxl⟩ := HS3.out
                    go_wp2_with (first | (go_at_call 45; refine (H45.out _ HS3.out).mono ?_; rintro e W4 ⟨rfl, hS4⟩; have HS4 := Lib.hid hS4; obtain ⟨hb64, -, -, hx14, hxl4⟩ := hS4; have hxf4 := (HT1.out.2.1.keep hb64 HT1.out.2.1.lt).free 1; clear hb64) | fail)
                    go_tidy
                    have hb6 := HS4.out.1
                    obtain ⟨r1, r2, r3, r4, r5, r6, r7, -⟩ := HT1.out
                    have ks : ∀ j, j ≠ x → (W4.setCell ⟨x, 1, none⟩ (.int .u64 sv)).heap[j]? = W4.heap[j]? := fun j hj => Below.heap_setCell _ _ _ j (by simpa using hj)
                    have := HH.out.told HY.out.1 H1.out H2.out HT.out.1 HT.out.2 (W := W4.setCell ⟨x, 1, none⟩ (.int .u64 sv))
                      (ownsRow_keep (own_belowW r1 hb6) fun j hj => ks j fun e => HH.out.lx (by rw [← e]; exact hj))
                      (by rw [HCL.out, ← HSV.out, show max S.clock sv = sv by omega]; exact (r2.keep hb6 r2.lt).set 1 _)
                      (by rw [← r3]; simpa using hb6.size) (fun j hj h1 h2 => by rw [ks j h2, hb6.block j (by omega), r4 j h1]) (hb6.os.trans r5) (hb6.tape.trans r6) (hb6.output.trans r7)
                    exact END.out _ _ _ this.1 (RStep.after HB2.out this.2)
                  · have hgtb : decide (S.clock < sv) = false := decide_eq_false hgt
                    refine all_start (RLF W2 lk (i * 7) x (setKn y.1 3 t, y.2) (.slice (some ⟨lk, 0, none⟩) L.length lc) (.int .u64 S.clock)) 24 (by kernel_rfl) (hS0) ?_
                    show AllTill _ _ _ _ _ _ 24 (Array.replicate 24 false) _
                    refine all_take 0 (v := ?_) rfl (by kernel_rfl) (FlowsIf.read (by rfl) ?_) hex ?_
                    rotate_left
                    focus (intro w' hSw; obtain ⟨hb6, ⟨z0, z1, z2, z3, z4, z5, z6, zl⟩, hx2, hx1, hxl⟩ := hSw; go_simp; try (with_reducible rfl))
                    try simp only [Act.put, List.setIfInBounds_toArray, List.set_cons_zero, List.set_cons_succ]
                    refine all_take 1 (v := ?_) rfl (by kernel_rfl) (FlowsIf.read (by rfl) ?_) hex ?_
                    rotate_left
                    focus (intro w' hSw; obtain ⟨hb6, ⟨z0, z1, z2, z3, z4, z5, z6, zl⟩, hx2, hx1, hxl⟩ := hSw; go_simp; try (with_reducible rfl))
                    try simp only [Act.put, List.setIfInBounds_toArray, List.set_cons_zero, List.set_cons_succ]
                    refine all_take 2 (v := ?_) rfl (by kernel_rfl) (FlowsIf.read (by rfl) ?_) hex ?_
                    rotate_left
                    focus (intro w' hSw; obtain ⟨hb6, ⟨z0, z1, z2, z3, z4, z5, z6, zl⟩, hx2, hx1, hxl⟩ := hSw; go_simp; try (with_reducible rfl))
                    try simp only [Act.put, List.setIfInBounds_toArray, List.set_cons_zero, List.set_cons_succ]
                    refine all_take 3 (v := ?_) rfl (by kernel_rfl) (FlowsIf.read (by rfl) ?_) hex ?_
                    rotate_left
                    focus (intro w' hSw; obtain ⟨hb6, ⟨z0, z1, z2, z3, z4, z5, z6, zl⟩, hx2, hx1, hxl⟩ := hSw; go_simp; try (with_reducible rfl))
                    try simp only [Act.put, List.setIfInBounds_toArray, List.set_cons_zero, List.set_cons_succ]
                    refine all_take 4 (v := ?_) rfl (by kernel_rfl) (FlowsIf.read (by rfl) ?_) hex ?_
                    rotate_left
                    focus (intro w' hSw; obtain ⟨hb6, ⟨z0, z1, z2, z3, z4, z5, z6, zl⟩, hx2, hx1, hxl⟩ := hSw; go_simp; try (with_reducible rfl))
                    try simp only [Act.put, List.setIfInBounds_toArray, List.set_cons_zero, List.set_cons_succ]
                    refine all_take 5 (v := ?_) rfl (by kernel_rfl) (FlowsIf.read (by rfl) ?_) hex ?_
                    rotate_left
                    focus (intro w' hSw; obtain ⟨hb6, ⟨z0, z1, z2, z3, z4, z5, z6, zl⟩, hx2, hx1, hxl⟩ := hSw; go_simp; try (with_reducible rfl))
                    try simp only [Act.put, List.setIfInBounds_toArray, List.set_cons_zero, List.set_cons_succ]
                    refine all_take 6 (v := ?_) rfl (by kernel_rfl) (FlowsIf.read (by rfl) ?_) hex ?_
                    rotate_left
                    focus (intro w' hSw; obtain ⟨hb6, ⟨z0, z1, z2, z3, z4, z5, z6, zl⟩, hx2, hx1, hxl⟩ := hSw; go_simp; try (with_reducible rfl))
                    try simp only [Act.put, List.setIfInBounds_toArray, List.set_cons_zero, List.set_cons_succ]
                    refine all_take 7 (v := ?_) rfl (by kernel_rfl) (FlowsIf.call (f := 44) (args := ?_) (by rfl) ?_ ?_) hex ?_
                    rotate_left 2
                    focus (intro w'; go_simp; try (with_reducible rfl))
                    focus (exact H44.out)
                    try simp only [Act.put, List.setIfInBounds_toArray, List.set_cons_zero, List.set_cons_succ]
                    refine all_take 8 (v := ?_) rfl (by kernel_rfl) (FlowsIf.read (by rfl) ?_) hex ?_
                    rotate_left
                    focus (intro w' hSw; obtain ⟨hb6, ⟨z0, z1, z2, z3, z4, z5, z6, zl⟩, hx2, hx1, hxl⟩ := hSw; go_simp; try (with_reducible rfl))
                    try simp only [Act.put, List.setIfInBounds_toArray, List.set_cons_zero, List.set_cons_succ]
                    refine all_take 9 (v := ?_) rfl (by kernel_rfl) (FlowsIf.read (by rfl) ?_) hex ?_
                    rotate_left
                    focus (intro w' hSw; obtain ⟨hb6, ⟨z0, z1, z2, z3, z4, z5, z6, zl⟩, hx2, hx1, hxl⟩ := hSw; go_simp; try (with_reducible rfl))
                    try simp only [Act.put, List.setIfInBounds_toArray, List.set_cons_zero, List.set_cons_succ]
                    refine all_take 10 (v := ?_) rfl (by kernel_rfl) (FlowsIf.read (by rfl) ?_) hex ?_
                    rotate_left
                    focus (intro w' hSw; obtain ⟨hb6, ⟨z0, z1, z2, z3, z4, z5, z6, zl⟩, hx2, hx1, hxl⟩ := hSw; go_simp; try (with_reducible rfl))
                    try simp only [Act.put, List.setIfInBounds_toArray, List.set_cons_zero, List.set_cons_succ]
                    refine all_take 11 (v := ?_) rfl (by kernel_rfl) (FlowsIf.read (by rfl) ?_) hex ?_
                    rotate_left
                    focus (intro w' hSw; obtain ⟨hb6, ⟨z0, z1, z2, z3, z4, z5, z6, zl⟩, hx2, hx1, hxl⟩ := hSw; go_simp; try (with_reducible rfl))
                    try simp only [Act.put, List.setIfInBounds_toArray, List.set_cons_zero, List.set_cons_succ]
                    refine all_take 12 (v := ?_) rfl (by kernel_rfl) (FlowsIf.read (by rfl) ?_) hex ?_
                    rotate_left
                    focus (intro w' hSw; obtain ⟨hb6, ⟨z0, z1, z2, z3, z4, z5, z6, zl⟩, hx2, hx1, hxl⟩ := hSw; go_simp; try (with_reducible rfl))
                    try simp only [Act.put, List.setIfInBounds_toArray, List.set_cons_zero, List.set_cons_succ]
                    refine all_take 13 (v := ?_) rfl (by kernel_rfl) (FlowsIf.read (by rfl) ?_) hex ?_
                    rotate_left
                    focus (intro w' hSw; obtain ⟨hb6, ⟨z0, z1, z2, z3, z4, z5, z6, zl⟩, hx2, hx1, hxl⟩ := hSw; go_simp; try (with_reducible rfl))
                    try simp only [Act.put, List.setIfInBounds_toArray, List.set_cons_zero, List.set_cons_succ]
                    refine all_take 14 (v := ?_) rfl (by kernel_rfl) (FlowsIf.read (by rfl) ?_) hex ?_
                    rotate_left
                    focus (intro w' hSw; obtain ⟨hb6, ⟨z0, z1, z2, z3, z4, z5, z6, zl⟩, hx2, hx1, hxl⟩ := hSw; go_simp; try (with_reducible rfl))
                    try simp only [Act.put, List.setIfInBounds_toArray, List.set_cons_zero, List.set_cons_succ]
                    refine all_take 15 (v := ?_) rfl (by kernel_rfl) (FlowsIf.read (by rfl) ?_) hex ?_
                    rotate_left
                    focus (intro w' hSw; obtain ⟨hb6, ⟨z0, z1, z2, z3, z4, z5, z6, zl⟩, hx2, hx1, hxl⟩ := hSw; go_simp; try (with_reducible rfl))
                    try simp only [Act.put, List.setIfInBounds_toArray, List.set_cons_zero, List.set_cons_succ]
                    refine all_take 16 (v := ?_) rfl (by kernel_rfl) (FlowsIf.read (by rfl) ?_) hex ?_
                    rotate_left
                    focus (intro w' hSw; obtain ⟨hb6, ⟨z0, z1, z2, z3, z4, z5, z6, zl⟩, hx2, hx1, hxl⟩ := hSw; go_simp; try (with_reducible rfl))
                    try simp only [Act.put, List.setIfInBounds_toArray, List.set_cons_zero, List.set_cons_succ]
                    refine all_take 17 (v := ?_) rfl (by kernel_rfl) (FlowsIf.call (f := 45) (args := ?_) (by rfl) ?_ ?_) hex ?_
                    rotate_left 2
                    focus (intro w'; go_simp; try (with_reducible rfl))
                    focus (exact H45.out)
                    try simp only [Act.put, List.setIfInBounds_toArray, List.set_cons_zero, List.set_cons_succ]
                    refine all_take 18 (v := ?_) rfl (by kernel_rfl) (FlowsIf.read (by rfl) ?_) hex ?_
                    rotate_left
                    focus (intro w' hSw; obtain ⟨hb6, ⟨z0, z1, z2, z3, z4, z5, z6, zl⟩, hx2, hx1, hxl⟩ := hSw; go_simp; try (with_reducible rfl))
                    try simp only [Act.put, List.setIfInBounds_toArray, List.set_cons_zero, List.set_cons_succ]
                    refine all_take 19 (v := ?_) rfl (by kernel_rfl) (FlowsIf.read (by rfl) ?_) hex ?_
                    rotate_left
                    focus (intro w' hSw; obtain ⟨hb6, ⟨z0, z1, z2, z3, z4, z5, z6, zl⟩, hx2, hx1, hxl⟩ := hSw; go_simp; try (with_reducible rfl))
                    try simp only [Act.put, List.setIfInBounds_toArray, List.set_cons_zero, List.set_cons_succ]
                    refine all_take 20 (v := ?_) rfl (by kernel_rfl) (FlowsIf.read (by rfl) ?_) hex ?_
                    rotate_left
                    focus (intro w' hSw; obtain ⟨hb6, ⟨z0, z1, z2, z3, z4, z5, z6, zl⟩, hx2, hx1, hxl⟩ := hSw; go_simp; try (with_reducible rfl))
                    try simp only [Act.put, List.setIfInBounds_toArray, List.set_cons_zero, List.set_cons_succ]
                    refine all_take 21 (v := ?_) rfl (by kernel_rfl) (FlowsIf.read (by rfl) ?_) hex ?_
                    rotate_left
                    focus (intro w' hSw; obtain ⟨hb6, ⟨z0, z1, z2, z3, z4, z5, z6, zl⟩, hx2, hx1, hxl⟩ := hSw; go_simp; try (with_reducible rfl))
                    try simp only [Act.put, List.setIfInBounds_toArray, List.set_cons_zero, List.set_cons_succ]
                    refine all_take 22 (v := ?_) rfl (by kernel_rfl) (FlowsIf.read (by rfl) ?_) hex ?_
                    rotate_left
                    focus (intro w' hSw; obtain ⟨hb6, ⟨z0, z1, z2, z3, z4, z5, z6, zl⟩, hx2, hx1, hxl⟩ := hSw; go_simp; try (with_reducible rfl))
                    try simp only [Act.put, List.setIfInBounds_toArray, List.set_cons_zero, List.set_cons_succ]
                    refine all_take 23 (v := ?_) rfl (by kernel_rfl) (FlowsIf.read (by rfl) ?_) hex ?_
                    rotate_left
                    focus (intro w' hSw; obtain ⟨hb6, ⟨z0, z1, z2, z3, z4, z5, z6, zl⟩, hx2, hx1, hxl⟩ := hSw; go_simp; try (with_reducible rfl))
                    try simp only [Act.put, List.setIfInBounds_toArray, List.set_cons_zero, List.set_cons_succ]
                    refine all_stop (by kernel_rfl) ?_
                    intro W3 hS3
                    refine till_done (by kernel_rfl) ?_
                    have HS3 := Lib.hid hS3
                    clear hS3
                    go_wp2
                    go_tidy
                    exact HDONE.out _ HS3.out.1 (by rw [HCL.out, ← HSV.out]; omega)
            · have h0b : (y.1.kn k != 0) = true := by simpa using h0
              have hS : learnS g S id k t = (0, S) := by unfold learnS; rw [HF.out]; simp only; rw [if_neg hgood, if_pos h0]
              have END := Lib.hid (STAY.out _ hS _ HB2.out)
              clear hS hgood h0
              rcases K4.out with rfl | rfl | rfl | rfl
              all_goals
                go_wp2_with (first | (go_at_call 38; refine H38.out.mono ?_; rintro e w1 ⟨rfl, rfl⟩) | fail)
                go_tidy
                exact END.out
      · have h2b : decide (k ∈ y.1.groups) = false := decide_eq_false h2
        rw [h2b] at H38
        have END := Lib.hid (BAD.out (.inr (.inl h2)))
        clear h2 h2b
        go_wp2_with (first | (go_at_call 38; refine H38.out.mono ?_; rintro e w1 ⟨rfl, rfl⟩) | fail)
        go_tidy
        exact END.out
end
end Go.Proofs.Ytamjdghjaimihaa
