/- The reference: those that wait, in their order. Conditions: each law's own. -/
import Derived.Test.YtamjdghjaimihaaRAt
import Derived.Test.YtamjdghjaimihaaQBegin2
import Derived.Test.YtamjdghjaimihaaAppNone
namespace Go.Proofs.Ytamjdghjaimihaa
open Go.ChangeShapes Go.WideShapes Go.ChangeAt Go.RowKit

def OrdEnd (w : World) (g : Int) (S : QS) (L : List RefO) (e : Ending) (w' : World) : Prop :=
  ∃ (v : Value) (L' : List RefO), e = .returned v ∧ w'.ownsRow w.heap.size 55 7 v L'.length (L'.flatMap encR) ∧ L'.map (·.1) = ord g S.L ∧ L'.Perm L ∧ Below w.heap.size w w'
def OrdRel (w : World) (g : Int) (L : List RefO) (out i : Value) (wr : World) : Prop :=
  ∃ (j : Nat) (O : List RefO), j ≤ L.length ∧ i = .int .i64 j ∧ O.Perm (L.take j) ∧ Sorted g (O.map (·.1)) ∧ wr.ownsRow w.heap.size 55 7 out O.length (O.flatMap encR) ∧ (O = [] → out = .slice none 0 0) ∧ Below w.heap.size w wr
def OrdIn (wo : World) (g : Int) (O : List RefO) (y : RefO) (k : Value) (wi : World) : Prop :=
  ∃ m : Nat, m ≤ O.length ∧ k = .int .i64 m ∧ (∀ (i : Nat) z, i < m → O[i]? = some z → ltR g z.1 y.1 = true) ∧ Below wo.heap.size wo wi
def OrdF (w0 : World) (p q i j x : Nat) (z y : RefO) (lv : Value) (W : World) : Prop := Below w0.heap.size w0 W ∧ CellsR p i z W ∧ CellsR q j y W ∧ W.cell? ⟨x, 2, none⟩ = some lv ∧ x < W.heap.size
theorem some55 : ∃ i, Try.prog.info? 55 = some i := by
  have h := inf55
  cases hi : Try.prog.info? 55 with
  | none => rw [hi] at h; cases h
  | some i => exact ⟨i, rfl⟩
theorem take_perm {α : Type} {O : List α} {m : Nat} {y : α} : (O.take m ++ y :: O.drop m).Perm (O ++ [y]) := by
  have h1 : (O.take m ++ y :: O.drop m).Perm (O.take m ++ (O.drop m ++ [y])) := List.Perm.append_left _ (List.perm_append_comm (l₁ := [y]) (l₂ := O.drop m))
  rw [← List.append_assoc, List.take_append_drop] at h1
  exact h1
section
variable {w : World} {x : Nat} {g : Int} {S : QS} {L : List RefO} {lv : Value} {B : Nat}
theorem RefAt.apartL (h : RefAt w x g S L lv B) : (L.map (·.1)).Pairwise fun a b => a.id ≠ b.id := by rw [h.lst]; exact h.ok.apart
theorem RefAt.notYet (h : RefAt w x g S L lv B) {j : Nat} {y : RefO} (hy : L[j]? = some y) {O : List RefO} (hO : O.Perm (L.take j)) : ∀ z ∈ O, z.1.id ≠ y.1.id := fun z hz => by
  have h1 := h.apartL
  rw [List.pairwise_map, List.pairwise_iff_getElem] at h1
  obtain ⟨i, hi⟩ := List.getElem?_of_mem (hO.mem_iff.1 hz)
  have hil := (List.getElem?_eq_some_iff.1 hi).1
  rw [List.length_take] at hil
  rw [List.getElem?_take, if_pos (by omega)] at hi
  obtain ⟨a1, a2⟩ := List.getElem?_eq_some_iff.1 hi
  obtain ⟨b1, b2⟩ := List.getElem?_eq_some_iff.1 hy
  have := h1 i j a1 b1 (by omega)
  rw [a2, b2] at this
  exact this
set_option maxHeartbeats 8000000 in
set_option maxRecDepth 100000 in
theorem c43 (h : RefAt w x g S L lv B) (hl : L.length ≤ 1000) : Calls Try.prog 43 #[.pointer (some ⟨x, 0, none⟩)] w (OrdEnd w g S L) := by
  refine gen (S := OrdEnd w g S L) fun R hR => ?_
  have c0 := h.box.cell (j := 2) rfl
  have xl0 := h.box.lt
  have H := Lib.hid h
  have HR := Lib.hid hR
  have h54 := fun W z y (hb : Below w.heap.size w W) (hz : z ∈ L) (hy : y ∈ L) => c54 ((h.below hb).box) h.g0 ((h.below hb).gok hz) ((h.below hb).gok hy)
  have H54 := Lib.hid h54
  obtain ⟨la, lc, rfl⟩ := owns_slice' h.row
  have EG : ∀ args w, (callFunc 54 args).run Try.prog w = .ok (.enter 54 args) w := enters_of Try.func54 (by kernel_rfl) rfl
  obtain ⟨i55, hi55⟩ := some55
  have I55 := Lib.hid hi55
  clear h hR h54 hi55
  go_enter Try.func43, Try.ntmps43
  go_wp2
  go_loopw [3, 4] (fun out i wr => OrdRel w g L out i wr) (fun _ i _ => L.length - (intOf i).toNat)
  case atStart => exact ⟨0, [], by omega, rfl, by simp, .nil, World.ownsRow_nil _ _ _ _, fun _ => rfl, Below.refl _ _⟩
  case round =>
    obtain ⟨j, O, hj, rfl, hp, hso, hown, hnil, hbr⟩ := hrel
    obtain ⟨wo, hwo⟩ : ∃ wo : World, wo = wr := ⟨_, rfl⟩
    subst hwo
    have hho := H.out.below hbr
    have cx : wo.cell? ⟨x, 2, none⟩ = some (.slice la L.length lc) := hho.box.cell (j := 2) rfl
    have xl : x < wo.heap.size := hho.box.lt
    obtain ⟨oa, oc, rfl⟩ := owns_slice' hown
    have HP := Lib.hid hp
    have HSO := Lib.hid hso
    have HOWN := Lib.hid hown
    have HNIL := Lib.hid hnil
    have HBR := Lib.hid hbr
    have hOl : O.length = j := by have := hp.length_eq; rw [List.length_take] at this; omega
    have HOL := Lib.hid hOl
    clear hp hso hown hnil hbr hho c0 xl0 hOl
    rcases Nat.lt_or_ge j L.length with hlt | hge
    · obtain ⟨y, hy⟩ : ∃ y, L[j]? = some y := ⟨L[j], List.getElem?_eq_getElem hlt⟩
      obtain ⟨lk, lcap, hle, hlkl, hlcap⟩ := row_addr H.out.row (by omega)
      cases hle
      have hjI : (j : Int) < (L.length : Int) := by omega
      have hyc := CellsR.of (H.out.below HBR.out).row hy
      have hyg := (H.out.below HBR.out).gok (List.mem_of_getElem? hy)
      have HY := Lib.hid hy
      have HYC := Lib.hid hyc
      have hnot := H.out.notYet hy HP.out
      have HNOT := Lib.hid hnot
      have hOm : ∀ z ∈ O, z ∈ L := fun z hz => List.mem_of_mem_take (HP.out.mem_iff.1 hz)
      have HOM := Lib.hid hOm
      have h54y := fun W z (hb : Below wo.heap.size wo W) (hz : z ∈ O) => H54.out W z y (HBR.out.trans (hb.mono HBR.out.size)) (hOm z hz) (List.mem_of_getElem? hy)
      have H54Y := Lib.hid h54y
      have hone : ∀ W, Below wo.heap.size wo W → ∀ z ∈ O, GOk z W := fun W hb z hz => ((H.out.below HBR.out).gok (hOm z hz)).below hb
      have HONE := Lib.hid hone
      have HYG := Lib.hid hyg
      have hLb : O.length + 1 ≤ 1000 := by have := HOL.out; omega
      have HLB := Lib.hid hLb
      have nxt : ∀ (m : Nat) (v : Value) (W : World), m ≤ O.length → (∀ (i : Nat) z, i < m → O[i]? = some z → ltR g z.1 y.1 = true) → (∀ z, O[m]? = some z → ltR g z.1 y.1 = false) → W.ownsRow w.heap.size 55 7 v (O.length + 1) ((O.take m).flatMap encR ++ encR y ++ (O.drop m).flatMap encR) → Below wo.heap.size wo W →
          OrdRel w g L v (.int .i64 ((j : Int) + 1)) W := fun m v W hm h1 h2 hW hb => by
        refine ⟨j + 1, O.take m ++ y :: O.drop m, by have := (List.getElem?_eq_some_iff.1 HY.out).1; omega, rfl, ?_, ?_, ?_, fun e => ?_, HBR.out.trans (hb.mono HBR.out.size)⟩
        · rw [List.take_add_one, HY.out]
          exact take_perm.trans (HP.out.append_right [y])
        · rw [List.map_append, List.map_cons, List.map_take, List.map_drop]
          refine sorted_ins HSO.out (by rw [List.length_map]; exact hm) (fun i z hi hz => ?_) (fun z hz => ?_) fun z hz => ?_
          · rw [List.getElem?_map] at hz
            obtain ⟨z', hz', rfl⟩ := Option.map_eq_some_iff.1 hz
            exact h1 i z' hi hz'
          · rw [List.getElem?_map] at hz
            obtain ⟨z', hz', rfl⟩ := Option.map_eq_some_iff.1 hz
            exact h2 z' hz'
          · obtain ⟨z', hz', rfl⟩ := List.mem_map.1 hz
            exact HNOT.out z' hz'
        · have hlen : (O.take m ++ y :: O.drop m).length = O.length + 1 := by rw [take_perm.length_eq, List.length_append, List.length_singleton]
          rw [hlen, List.flatMap_append, List.flatMap_cons, ← List.append_assoc]
          exact hW
        · have := congrArg List.length e
          simp at this
      have NXT := Lib.hid nxt
      clear hy hyc hyg hnot hOm h54y hone hLb nxt
      rcases Nat.eq_zero_or_pos O.length with hz0 | hpos
      · obtain rfl : O = [] := List.eq_nil_of_length_eq_zero hz0
        have hov := HNIL.out rfl
        simp only [List.length_nil, Value.slice.injEq] at hov
        obtain ⟨rfl, -, rfl⟩ := hov
        rw [List.length_nil]
        clear hz0
        go_wp2
        go_loopw [5] (fun k wi => k = .int .i64 0 ∧ wo = wi) (fun _ _ => 0)
        case atStart => exact ⟨rfl, rfl⟩
        case round =>
          obtain ⟨rfl, rfl⟩ := hrel
          go_upto_region 6 with fail
          have hex : ∃ W, W = wo.drew := ⟨_, rfl⟩
          refine all_start (fun W => W = wo.drew) 19 (by kernel_rfl) (rfl) ?_
          show AllTill _ _ _ _ _ _ 19 (Array.replicate 19 false) _
          refine all_take 0 (v := ?_) rfl (by kernel_rfl) (FlowsIf.read (by rfl) ?_) hex ?_
          rotate_left
          focus (intro w' hSw; obtain rfl := hSw; go_simp; try (with_reducible rfl))
          try simp only [Act.put, List.setIfInBounds_toArray, List.set_cons_zero, List.set_cons_succ]
          refine all_take 1 (v := ?_) rfl (by kernel_rfl) (FlowsIf.read (by rfl) ?_) hex ?_
          rotate_left
          focus (intro w' hSw; obtain rfl := hSw; go_simp; try (with_reducible rfl))
          try simp only [Act.put, List.setIfInBounds_toArray, List.set_cons_zero, List.set_cons_succ]
          refine all_take 2 (v := ?_) rfl (by kernel_rfl) (FlowsIf.read (by rfl) ?_) hex ?_
          rotate_left
          focus (intro w' hSw; obtain rfl := hSw; go_simp; try (with_reducible rfl))
          try simp only [Act.put, List.setIfInBounds_toArray, List.set_cons_zero, List.set_cons_succ]
          refine all_take 3 (v := ?_) rfl (by kernel_rfl) (FlowsIf.read (by rfl) ?_) hex ?_
          rotate_left
          focus (intro w' hSw; obtain rfl := hSw; go_simp; try (with_reducible rfl))
          try simp only [Act.put, List.setIfInBounds_toArray, List.set_cons_zero, List.set_cons_succ]
          refine all_take 4 (v := ?_) rfl (by kernel_rfl) (FlowsIf.read (by rfl) ?_) hex ?_
          rotate_left
          focus (intro w' hSw; obtain rfl := hSw; go_simp; try (with_reducible rfl))
          try simp only [Act.put, List.setIfInBounds_toArray, List.set_cons_zero, List.set_cons_succ]
          refine all_take 5 rfl (by kernel_rfl) (FlowsIf.skip (by rfl)) hex ?_
          try simp only [Act.put, List.setIfInBounds_toArray, List.set_cons_zero, List.set_cons_succ]
          refine all_take 6 rfl (by kernel_rfl) (FlowsIf.skip (by rfl)) hex ?_
          try simp only [Act.put, List.setIfInBounds_toArray, List.set_cons_zero, List.set_cons_succ]
          refine all_take 7 rfl (by kernel_rfl) (FlowsIf.skip (by rfl)) hex ?_
          try simp only [Act.put, List.setIfInBounds_toArray, List.set_cons_zero, List.set_cons_succ]
          refine all_take 8 rfl (by kernel_rfl) (FlowsIf.skip (by rfl)) hex ?_
          try simp only [Act.put, List.setIfInBounds_toArray, List.set_cons_zero, List.set_cons_succ]
          refine all_take 9 rfl (by kernel_rfl) (FlowsIf.skip (by rfl)) hex ?_
          try simp only [Act.put, List.setIfInBounds_toArray, List.set_cons_zero, List.set_cons_succ]
          refine all_take 10 rfl (by kernel_rfl) (FlowsIf.skip (by rfl)) hex ?_
          try simp only [Act.put, List.setIfInBounds_toArray, List.set_cons_zero, List.set_cons_succ]
          refine all_take 11 rfl (by kernel_rfl) (FlowsIf.skip (by rfl)) hex ?_
          try simp only [Act.put, List.setIfInBounds_toArray, List.set_cons_zero, List.set_cons_succ]
          refine all_take 12 rfl (by kernel_rfl) (FlowsIf.skip (by rfl)) hex ?_
          try simp only [Act.put, List.setIfInBounds_toArray, List.set_cons_zero, List.set_cons_succ]
          refine all_take 13 rfl (by kernel_rfl) (FlowsIf.skip (by rfl)) hex ?_
          try simp only [Act.put, List.setIfInBounds_toArray, List.set_cons_zero, List.set_cons_succ]
          refine all_take 14 rfl (by kernel_rfl) (FlowsIf.skip (by rfl)) hex ?_
          try simp only [Act.put, List.setIfInBounds_toArray, List.set_cons_zero, List.set_cons_succ]
          refine all_take 15 rfl (by kernel_rfl) (FlowsIf.skip (by rfl)) hex ?_
          try simp only [Act.put, List.setIfInBounds_toArray, List.set_cons_zero, List.set_cons_succ]
          refine all_take 16 rfl (by kernel_rfl) (FlowsIf.skip (by rfl)) hex ?_
          try simp only [Act.put, List.setIfInBounds_toArray, List.set_cons_zero, List.set_cons_succ]
          refine all_take 17 rfl (by kernel_rfl) (FlowsIf.skip (by rfl)) hex ?_
          try simp only [Act.put, List.setIfInBounds_toArray, List.set_cons_zero, List.set_cons_succ]
          refine all_take 18 (v := ?_) rfl (by kernel_rfl) (FlowsIf.read (by rfl) ?_) hex ?_
          rotate_left
          focus (intro w' hSw; obtain rfl := hSw; go_simp; try (with_reducible rfl))
          try simp only [Act.put, List.setIfInBounds_toArray, List.set_cons_zero, List.set_cons_succ]
          refine all_stop (by kernel_rfl) ?_
          intro W1 hW1
          refine till_done (by kernel_rfl) ?_
          obtain rfl : W1 = wo.drew := hW1
          have hle := HLB.out
          obtain ⟨y0, y1, y2, y3, y4, y5, y6, yl⟩ := HYC.out
          go_wp2_with (first
            | (at_builtin
               (refine wpList_append_fresh ((wo.drew).alloc (.cells (encR y).toArray 55)) rfl (.tmp 42) (.tmp 50) 47 rfl w.heap.size 55 (.agg #[.int .i64 0, .int .i64 0, .slice none 0 0, .int .u64 0, .int .u64 0, .int .u64 0, .int .u64 0]) 7 72 und47 inf55 rfl (by decide) (.slice none 0 0) (0) ([]) (by rfl) (World.ownsRow_nil _ _ _ _) (⟨wo.heap.size, 0, none⟩) (1) (1) (encR y) (by rfl) (rfl) ?hnew (fun u hu => encR_one (O := [y]) (w := wo) (fun p hp => by simp at hp; subst hp; exact HYG.out) u (by simpa using hu)) (by unfold maxLen; omega) (by omega) (by have := HBR.out.size; simp; omega) ?_)
               case hnew => intro j' u hu; rw [Go.WideShapes.add_plain, Nat.zero_add]; exact (VarAt.new wo.drew 55 (encR y)).cell hu
               intro v2 w2 hT2 hg2 ho2; rw [Nat.zero_add, List.nil_append] at hT2; obtain ⟨k2, c2, rfl, -, hc2⟩ := row_addr (O := [y]) (by simpa using hT2) (by simp); have HT2 := Lib.hid hT2; have HG2 := Lib.hid hg2; clear hT2 hg2 ho2)
            | (at_builtin; refine wpList_append_none w2 rfl (.tmp 52) (.tmp 55) 47 rfl 55 i55 und47 I55.out (some ⟨k2, 0, none⟩) 1 c2 (by rfl) hc2 none 0 (by rfl) ?_)
            | fail)
          go_tidy
          refine ⟨NXT.out 0 _ _ (by simp) (fun i z hi => by omega) (fun z hz => by simp at hz) ?_ ?_, by simp [intOf]; omega⟩
          · simpa using HT2.out
          · exact ((Below.refl _ wo).drew.alloc (Nat.le_refl _) _).grown HG2.out (by simp) (fun k hk => by cases hk)
      · obtain ⟨ok, ocap, hle, hokl, hocap⟩ := row_addr HOWN.out hpos
        simp only [Value.slice.injEq] at hle
        obtain ⟨rfl, -, rfl⟩ := hle
        go_wp2
        go_loopw [5] (fun k wi => OrdIn wo g O y k wi) (fun k _ => O.length - (intOf k).toNat)
        case atStart => exact ⟨0, by omega, rfl, fun i z hi => by omega, Below.refl _ _⟩
        case round =>
          obtain ⟨m, hm, rfl, hlts, hbi⟩ := hrel
          obtain ⟨wi, hwi⟩ : ∃ wi : World, wi = wr := ⟨_, rfl⟩
          subst hwi
          have HLTS := Lib.hid hlts
          have HBI := Lib.hid hbi
          have hS : ∀ W, Below wi.heap.size wi W → CellsR lk (j * 7) y W ∧ W.cell? ⟨x, 2, none⟩ = some (.slice (some ⟨lk, 0, none⟩) L.length lc) ∧ x < W.heap.size := fun W hb => by
            have hb2 := HBI.out.trans (hb.mono HBI.out.size)
            have hh := (H.out.below HBR.out).below hb2
            exact ⟨HYC.out.below hb2, hh.box.cell (j := 2) rfl, hh.box.lt⟩
          have HS := Lib.hid hS
          clear hlts hbi hS cx xl
          rcases Nat.lt_or_ge m O.length with hml | hmg
          · obtain ⟨z, hz⟩ : ∃ z, O[m]? = some z := ⟨O[m], List.getElem?_eq_getElem hml⟩
            have hmI : (m : Int) < (O.length : Int) := by omega
            have hzc := CellsR.of (own_belowW HOWN.out HBI.out) hz
            have HZ := Lib.hid hz
            have HZC := Lib.hid hzc
            have h54z := fun W (hb : Below wi.heap.size wi W) => H54Y.out W z (HBI.out.trans (hb.mono HBI.out.size)) (List.mem_of_getElem? hz)
            have hSI : ∀ W, Below wi.heap.size wi W → OrdF wi ok lk (m * 7) (j * 7) x z y (.slice (some ⟨lk, 0, none⟩) L.length lc) W := fun W hb => ⟨hb, HZC.out.below hb, (HS.out W hb).1, (HS.out W hb).2.1, (HS.out W hb).2.2⟩
            have h54c : ∀ W, OrdF wi ok lk (m * 7) (j * 7) x z y (.slice (some ⟨lk, 0, none⟩) L.length lc) W → Calls Try.prog 54 #[.pointer (some ⟨x, 0, none⟩), oneV z, oneV y] W fun e w' => e = .returned (.bool (ltR g z.1 y.1)) ∧ OrdF wi ok lk (m * 7) (j * 7) x z y (.slice (some ⟨lk, 0, none⟩) L.length lc) w' := fun W hb => by
              refine (h54z W hb.1).mono ?_
              rintro e w' ⟨rfl, h2⟩
              exact ⟨rfl, hSI w' (hb.1.trans (h2.mono hb.1.size))⟩
            have H54C := Lib.hid h54c
            have hS0 := hSI wi.drew (Below.refl _ _).drew
            have hex := Exists.intro _ hS0
            clear hz hzc h54z hSI h54c
            unfold oneV at H54C
            go_upto_region 6 with fail
            refine all_start (OrdF wi ok lk (m * 7) (j * 7) x z y (.slice (some ⟨lk, 0, none⟩) L.length lc)) 19 (by kernel_rfl) (hS0) ?_
            show AllTill _ _ _ _ _ _ 19 (Array.replicate 19 false) _
            refine all_take 0 (v := ?_) rfl (by kernel_rfl) (FlowsIf.read (by rfl) ?_) hex ?_
            rotate_left
            focus (intro w' hSw; obtain ⟨hb6, ⟨z0, z1, z2, z3, z4, z5, z6, zl⟩, ⟨y0, y1, y2, y3, y4, y5, y6, yl⟩, cx, xl⟩ := hSw; go_simp; try (with_reducible rfl))
            try simp only [Act.put, List.setIfInBounds_toArray, List.set_cons_zero, List.set_cons_succ]
            refine all_take 1 (v := ?_) rfl (by kernel_rfl) (FlowsIf.read (by rfl) ?_) hex ?_
            rotate_left
            focus (intro w' hSw; obtain ⟨hb6, ⟨z0, z1, z2, z3, z4, z5, z6, zl⟩, ⟨y0, y1, y2, y3, y4, y5, y6, yl⟩, cx, xl⟩ := hSw; go_simp; try (with_reducible rfl))
            try simp only [Act.put, List.setIfInBounds_toArray, List.set_cons_zero, List.set_cons_succ]
            refine all_take 2 (v := ?_) rfl (by kernel_rfl) (FlowsIf.read (by rfl) ?_) hex ?_
            rotate_left
            focus (intro w' hSw; obtain ⟨hb6, ⟨z0, z1, z2, z3, z4, z5, z6, zl⟩, ⟨y0, y1, y2, y3, y4, y5, y6, yl⟩, cx, xl⟩ := hSw; go_simp; try (with_reducible rfl))
            try simp only [Act.put, List.setIfInBounds_toArray, List.set_cons_zero, List.set_cons_succ]
            refine all_take 3 (v := ?_) rfl (by kernel_rfl) (FlowsIf.read (by rfl) ?_) hex ?_
            rotate_left
            focus (intro w' hSw; obtain ⟨hb6, ⟨z0, z1, z2, z3, z4, z5, z6, zl⟩, ⟨y0, y1, y2, y3, y4, y5, y6, yl⟩, cx, xl⟩ := hSw; go_simp; try (with_reducible rfl))
            try simp only [Act.put, List.setIfInBounds_toArray, List.set_cons_zero, List.set_cons_succ]
            refine all_take 4 (v := ?_) rfl (by kernel_rfl) (FlowsIf.read (by rfl) ?_) hex ?_
            rotate_left
            focus (intro w' hSw; obtain ⟨hb6, ⟨z0, z1, z2, z3, z4, z5, z6, zl⟩, ⟨y0, y1, y2, y3, y4, y5, y6, yl⟩, cx, xl⟩ := hSw; go_simp; try (with_reducible rfl))
            try simp only [Act.put, List.setIfInBounds_toArray, List.set_cons_zero, List.set_cons_succ]
            refine all_take 5 (v := ?_) rfl (by kernel_rfl) (FlowsIf.read (by rfl) ?_) hex ?_
            rotate_left
            focus (intro w' hSw; obtain ⟨hb6, ⟨z0, z1, z2, z3, z4, z5, z6, zl⟩, ⟨y0, y1, y2, y3, y4, y5, y6, yl⟩, cx, xl⟩ := hSw; go_simp; try (with_reducible rfl))
            try simp only [Act.put, List.setIfInBounds_toArray, List.set_cons_zero, List.set_cons_succ]
            refine all_take 6 (v := ?_) rfl (by kernel_rfl) (FlowsIf.read (by rfl) ?_) hex ?_
            rotate_left
            focus (intro w' hSw; obtain ⟨hb6, ⟨z0, z1, z2, z3, z4, z5, z6, zl⟩, ⟨y0, y1, y2, y3, y4, y5, y6, yl⟩, cx, xl⟩ := hSw; go_simp; try (with_reducible rfl))
            try simp only [Act.put, List.setIfInBounds_toArray, List.set_cons_zero, List.set_cons_succ]
            refine all_take 7 (v := ?_) rfl (by kernel_rfl) (FlowsIf.read (by rfl) ?_) hex ?_
            rotate_left
            focus (intro w' hSw; obtain ⟨hb6, ⟨z0, z1, z2, z3, z4, z5, z6, zl⟩, ⟨y0, y1, y2, y3, y4, y5, y6, yl⟩, cx, xl⟩ := hSw; go_simp; try (with_reducible rfl))
            try simp only [Act.put, List.setIfInBounds_toArray, List.set_cons_zero, List.set_cons_succ]
            refine all_take 8 (v := ?_) rfl (by kernel_rfl) (FlowsIf.read (by rfl) ?_) hex ?_
            rotate_left
            focus (intro w' hSw; obtain ⟨hb6, ⟨z0, z1, z2, z3, z4, z5, z6, zl⟩, ⟨y0, y1, y2, y3, y4, y5, y6, yl⟩, cx, xl⟩ := hSw; go_simp; try (with_reducible rfl))
            try simp only [Act.put, List.setIfInBounds_toArray, List.set_cons_zero, List.set_cons_succ]
            refine all_take 9 (v := ?_) rfl (by kernel_rfl) (FlowsIf.read (by rfl) ?_) hex ?_
            rotate_left
            focus (intro w' hSw; obtain ⟨hb6, ⟨z0, z1, z2, z3, z4, z5, z6, zl⟩, ⟨y0, y1, y2, y3, y4, y5, y6, yl⟩, cx, xl⟩ := hSw; go_simp; try (with_reducible rfl))
            try simp only [Act.put, List.setIfInBounds_toArray, List.set_cons_zero, List.set_cons_succ]
            refine all_take 10 (v := ?_) rfl (by kernel_rfl) (FlowsIf.read (by rfl) ?_) hex ?_
            rotate_left
            focus (intro w' hSw; obtain ⟨hb6, ⟨z0, z1, z2, z3, z4, z5, z6, zl⟩, ⟨y0, y1, y2, y3, y4, y5, y6, yl⟩, cx, xl⟩ := hSw; go_simp; try (with_reducible rfl))
            try simp only [Act.put, List.setIfInBounds_toArray, List.set_cons_zero, List.set_cons_succ]
            refine all_take 11 (v := ?_) rfl (by kernel_rfl) (FlowsIf.read (by rfl) ?_) hex ?_
            rotate_left
            focus (intro w' hSw; obtain ⟨hb6, ⟨z0, z1, z2, z3, z4, z5, z6, zl⟩, ⟨y0, y1, y2, y3, y4, y5, y6, yl⟩, cx, xl⟩ := hSw; go_simp; try (with_reducible rfl))
            try simp only [Act.put, List.setIfInBounds_toArray, List.set_cons_zero, List.set_cons_succ]
            refine all_take 12 (v := ?_) rfl (by kernel_rfl) (FlowsIf.read (by rfl) ?_) hex ?_
            rotate_left
            focus (intro w' hSw; obtain ⟨hb6, ⟨z0, z1, z2, z3, z4, z5, z6, zl⟩, ⟨y0, y1, y2, y3, y4, y5, y6, yl⟩, cx, xl⟩ := hSw; go_simp; try (with_reducible rfl))
            try simp only [Act.put, List.setIfInBounds_toArray, List.set_cons_zero, List.set_cons_succ]
            refine all_take 13 (v := ?_) rfl (by kernel_rfl) (FlowsIf.read (by rfl) ?_) hex ?_
            rotate_left
            focus (intro w' hSw; obtain ⟨hb6, ⟨z0, z1, z2, z3, z4, z5, z6, zl⟩, ⟨y0, y1, y2, y3, y4, y5, y6, yl⟩, cx, xl⟩ := hSw; go_simp; try (with_reducible rfl))
            try simp only [Act.put, List.setIfInBounds_toArray, List.set_cons_zero, List.set_cons_succ]
            refine all_take 14 (v := ?_) rfl (by kernel_rfl) (FlowsIf.read (by rfl) ?_) hex ?_
            rotate_left
            focus (intro w' hSw; obtain ⟨hb6, ⟨z0, z1, z2, z3, z4, z5, z6, zl⟩, ⟨y0, y1, y2, y3, y4, y5, y6, yl⟩, cx, xl⟩ := hSw; go_simp; try (with_reducible rfl))
            try simp only [Act.put, List.setIfInBounds_toArray, List.set_cons_zero, List.set_cons_succ]
            refine all_take 15 (v := ?_) rfl (by kernel_rfl) (FlowsIf.read (by rfl) ?_) hex ?_
            rotate_left
            focus (intro w' hSw; obtain ⟨hb6, ⟨z0, z1, z2, z3, z4, z5, z6, zl⟩, ⟨y0, y1, y2, y3, y4, y5, y6, yl⟩, cx, xl⟩ := hSw; go_simp; try (with_reducible rfl))
            try simp only [Act.put, List.setIfInBounds_toArray, List.set_cons_zero, List.set_cons_succ]
            refine all_take 16 (v := ?_) rfl (by kernel_rfl) (FlowsIf.read (by rfl) ?_) hex ?_
            rotate_left
            focus (intro w' hSw; obtain ⟨hb6, ⟨z0, z1, z2, z3, z4, z5, z6, zl⟩, ⟨y0, y1, y2, y3, y4, y5, y6, yl⟩, cx, xl⟩ := hSw; go_simp; try (with_reducible rfl))
            try simp only [Act.put, List.setIfInBounds_toArray, List.set_cons_zero, List.set_cons_succ]
            refine all_take 17 (v := ?_) rfl (by kernel_rfl) (FlowsIf.call (f := 54) (args := ?_) (by rfl) ?_ ?_) hex ?_
            rotate_left 2
            focus (intro w'; go_simp; try (with_reducible rfl))
            focus (exact H54C.out)
            try simp only [Act.put, List.setIfInBounds_toArray, List.set_cons_zero, List.set_cons_succ]
            refine all_take 18 (v := ?_) rfl (by kernel_rfl) (FlowsIf.read (by rfl) ?_) hex ?_
            rotate_left
            focus (intro w' hSw; obtain ⟨hb6, ⟨z0, z1, z2, z3, z4, z5, z6, zl⟩, ⟨y0, y1, y2, y3, y4, y5, y6, yl⟩, cx, xl⟩ := hSw; go_simp; try (with_reducible rfl))
            try simp only [Act.put, List.setIfInBounds_toArray, List.set_cons_zero, List.set_cons_succ]
            refine all_stop (by kernel_rfl) ?_
            intro W1 hW1
            refine till_done (by kernel_rfl) ?_
            have HB1 := Lib.hid (HBI.out.trans (hW1.1.mono HBI.out.size))
            obtain ⟨⟨y0, y1, y2, y3, y4, y5, y6, yl⟩, cx, xl⟩ := HS.out W1 hW1.1
            clear hS0 hex hW1
            cases hlz : ltR g z.1 y.1 with
            | true =>
              have HLZ := Lib.hid hlz
              have hmb : (m : Int) < 1000 := by have := HLB.out; omega
              clear hlz
              go_wp2
              go_tidy
              refine ⟨⟨m + 1, by omega, rfl, fun i u hi hu => ?_, HB1.out⟩, by simp [intOf]; omega⟩
              rcases Nat.lt_or_ge i m with h4 | h4
              · exact HLTS.out i u h4 hu
              · obtain rfl : i = m := by omega
                rw [HZ.out] at hu; cases hu; exact HLZ.out
            | false =>
              have HNM := Lib.hid (show ∀ u, O[m]? = some u → ltR g u.1 y.1 = false from fun u hu => by rw [HZ.out] at hu; cases hu; exact hlz)
              clear hlz
              have hle := HLB.out
              have HOW1 := Lib.hid (own_belowW HOWN.out HB1.out)
              have HSZ := Lib.hid (show w.heap.size ≤ W1.heap.size from Nat.le_trans HBR.out.size HB1.out.size)
              go_wp2_with (first
                | (at_builtin
                   (refine wpList_append_fresh (W1) rfl (.tmp 37) (.tmp 40) 47 rfl w.heap.size 55 (.agg #[.int .i64 0, .int .i64 0, .slice none 0 0, .int .u64 0, .int .u64 0, .int .u64 0, .int .u64 0]) 7 72 und47 inf55 rfl (by decide) (.slice none 0 0) (0) ([]) (by rfl) (World.ownsRow_nil _ _ _ _) (⟨ok, 0, none⟩) (m) (oc) ((O.take (m)).flatMap encR) (by rfl) (by rw [flatR_len, List.length_take, Nat.min_eq_left (by omega)]) ?hnew (encR_one (fun p hp => HONE.out W1 HB1.out p (List.mem_of_mem_take hp))) (by unfold maxLen; omega) (by omega) (HSZ.out) ?_)
                   case hnew => exact row_take HOW1.out (m)
                   intro v2 w2 hT2 hg2 ho2
                   rw [Nat.zero_add, List.nil_append] at hT2
                   obtain ⟨a2, c2, rfl⟩ := owns_slice' hT2
                   have hb2 : Below wo.heap.size wo w2 := HB1.out.grown hg2 HB1.out.size (fun k hk => by cases hk)
                   have hh := (H.out.below HBR.out).below hb2
                   have cx2 : w2.cell? ⟨x, 2, none⟩ = some (.slice (some ⟨lk, 0, none⟩) L.length lc) := hh.box.cell (j := 2) rfl
                   have xl2 := hh.box.lt
                   obtain ⟨y20, y21, y22, y23, y24, y25, y26, yl2⟩ := HYC.out.below hb2
                   have HK2 : Hid (∀ k, (Value.slice a2 (m) c2).ownBlock = some k → wo.heap.size ≤ k) := Lib.hid fun k hk => by
                     rcases ho2 with e | ⟨g', e, hg'⟩
                     · rw [e] at hk; cases hk
                     · rw [hk] at e; cases e; exact Nat.le_trans HB1.out.size hg'
                   have HT2 := Lib.hid hT2
                   have HB2 := Lib.hid hb2
                   have HSZ2 := Lib.hid (show w.heap.size ≤ w2.heap.size from Nat.le_trans HBR.out.size hb2.size)
                   clear hT2 hg2 ho2 hh hb2 y0 y1 y2 y3 y4 y5 y6 yl cx xl)
                | (at_builtin
                   (refine wpList_append_fresh (w2.alloc (.cells (encR y).toArray 55)) rfl (.tmp 42) (.tmp 50) 47 rfl w.heap.size 55 (.agg #[.int .i64 0, .int .i64 0, .slice none 0 0, .int .u64 0, .int .u64 0, .int .u64 0, .int .u64 0]) 7 72 und47 inf55 rfl (by decide) (.slice a2 (m) c2) (m) ((O.take (m)).flatMap encR) (by rfl) (own_belowW HT2.out ((Below.refl _ _).alloc (Nat.le_refl _) _)) (⟨w2.heap.size, 0, none⟩) (1) (1) (encR y) (by rfl) (rfl) ?hnew (fun u hu => encR_one (O := [y]) (w := wo) (fun p hp => by simp at hp; subst hp; exact HYG.out) u (by simpa using hu)) (by unfold maxLen; omega) (by omega) (by have := HSZ2.out; simp; omega) ?_)
                   case hnew => intro j' u hu; rw [Go.WideShapes.add_plain, Nat.zero_add]; exact (VarAt.new w2 55 (encR y)).cell hu
                   intro v3 w3 hT3 hg3 ho3
                   have hl3 : (O.take (m) ++ [y]).length = (m) + 1 := by rw [List.length_append, List.length_take, List.length_singleton, Nat.min_eq_left (by omega)]
                   have hT3' : w3.ownsRow w.heap.size 55 7 v3 (O.take (m) ++ [y]).length ((O.take (m) ++ [y]).flatMap encR) := by
                     rw [hl3, List.flatMap_append]; simpa using hT3
                   obtain ⟨k3, c3, rfl, -, hc3⟩ := row_addr hT3' (by rw [hl3]; omega)
                   rw [hl3] at hc3 hT3'
                   have hb3 : Below wo.heap.size wo w3 := (HB2.out.alloc HB2.out.size _).grown hg3 (by have := HB2.out.size; simp; omega) (fun k hk => by
                     exact HK2.out k hk)
                   have HK3 : Hid (∀ k, (Value.slice (some ⟨k3, 0, none⟩) (O.take (m) ++ [y]).length c3).ownBlock = some k → wo.heap.size ≤ k) := Lib.hid fun k hk => by
                     rcases ho3 with e | ⟨g', e, hg'⟩
                     · rw [e] at hk; exact HK2.out k hk
                     · rw [hk] at e; cases e; simp at hg'; have := HB2.out.size; omega
                   rw [hl3]
                   have HT3 := Lib.hid hT3'
                   have HB3 := Lib.hid hb3
                   have HSZ3 := Lib.hid (show w.heap.size ≤ w3.heap.size from Nat.le_trans HBR.out.size hb3.size)
                   clear hT3 hT3' hg3 ho3 hb3 hl3)
                | (at_builtin
                   (refine wpList_append_fresh (w3) rfl (.tmp 52) (.tmp 55) 47 rfl w.heap.size 55 (.agg #[.int .i64 0, .int .i64 0, .slice none 0 0, .int .u64 0, .int .u64 0, .int .u64 0, .int .u64 0]) 7 72 und47 inf55 rfl (by decide) (.slice (some ⟨k3, 0, none⟩) (m + 1) c3) (m + 1) ((O.take m ++ [y]).flatMap encR) (by rfl) (HT3.out) (⟨ok, m * 7, none⟩) (O.length - m) (oc - m) ((O.drop m).flatMap encR) (by rfl) (by rw [flatR_len, List.length_drop]) ?hnew (encR_one (fun p hp => HONE.out w3 HB3.out p (List.mem_of_mem_drop hp))) (by unfold maxLen; omega) (by omega) (HSZ3.out) ?_)
                   case hnew => exact row_drop (own_belowW HOWN.out HB3.out) m (by omega)
                   intro v4 w4 hT4 hg4 ho4
                   have HT4 := Lib.hid hT4
                   have HG4 := Lib.hid hg4
                   have HO4 := Lib.hid ho4
                   clear hT4 hg4 ho4)
                | fail)
              go_tidy
              refine ⟨NXT.out m _ _ (by omega) HLTS.out HNM.out ?_ (HB3.out.grown HG4.out HB3.out.size fun k hk => HK3.out k hk), by simp [intOf]; omega⟩
              have := HT4.out
              rw [List.flatMap_append, show m + 1 + (O.length - m) = O.length + 1 by omega] at this
              simpa using this
          · obtain rfl : m = O.length := by omega
            have hex : ∃ W, Below wi.heap.size wi W := ⟨wi, Below.refl _ _⟩
            go_upto_region 6 with fail
            refine all_start (Below wi.heap.size wi) 19 (by kernel_rfl) ((Below.refl _ _).drew) ?_
            show AllTill _ _ _ _ _ _ 19 (Array.replicate 19 false) _
            refine all_take 0 (v := ?_) rfl (by kernel_rfl) (FlowsIf.read (by rfl) ?_) hex ?_
            rotate_left
            focus (intro w' hSw; go_simp; try (with_reducible rfl))
            try simp only [Act.put, List.setIfInBounds_toArray, List.set_cons_zero, List.set_cons_succ]
            refine all_take 1 (v := ?_) rfl (by kernel_rfl) (FlowsIf.read (by rfl) ?_) hex ?_
            rotate_left
            focus (intro w' hSw; go_simp; try (with_reducible rfl))
            try simp only [Act.put, List.setIfInBounds_toArray, List.set_cons_zero, List.set_cons_succ]
            refine all_take 2 (v := ?_) rfl (by kernel_rfl) (FlowsIf.read (by rfl) ?_) hex ?_
            rotate_left
            focus (intro w' hSw; go_simp; try (with_reducible rfl))
            try simp only [Act.put, List.setIfInBounds_toArray, List.set_cons_zero, List.set_cons_succ]
            refine all_take 3 (v := ?_) rfl (by kernel_rfl) (FlowsIf.read (by rfl) ?_) hex ?_
            rotate_left
            focus (intro w' hSw; go_simp; try (with_reducible rfl))
            try simp only [Act.put, List.setIfInBounds_toArray, List.set_cons_zero, List.set_cons_succ]
            refine all_take 4 (v := ?_) rfl (by kernel_rfl) (FlowsIf.read (by rfl) ?_) hex ?_
            rotate_left
            focus (intro w' hSw; go_simp; try (with_reducible rfl))
            try simp only [Act.put, List.setIfInBounds_toArray, List.set_cons_zero, List.set_cons_succ]
            refine all_take 5 rfl (by kernel_rfl) (FlowsIf.skip (by rfl)) hex ?_
            try simp only [Act.put, List.setIfInBounds_toArray, List.set_cons_zero, List.set_cons_succ]
            refine all_take 6 rfl (by kernel_rfl) (FlowsIf.skip (by rfl)) hex ?_
            try simp only [Act.put, List.setIfInBounds_toArray, List.set_cons_zero, List.set_cons_succ]
            refine all_take 7 rfl (by kernel_rfl) (FlowsIf.skip (by rfl)) hex ?_
            try simp only [Act.put, List.setIfInBounds_toArray, List.set_cons_zero, List.set_cons_succ]
            refine all_take 8 rfl (by kernel_rfl) (FlowsIf.skip (by rfl)) hex ?_
            try simp only [Act.put, List.setIfInBounds_toArray, List.set_cons_zero, List.set_cons_succ]
            refine all_take 9 rfl (by kernel_rfl) (FlowsIf.skip (by rfl)) hex ?_
            try simp only [Act.put, List.setIfInBounds_toArray, List.set_cons_zero, List.set_cons_succ]
            refine all_take 10 rfl (by kernel_rfl) (FlowsIf.skip (by rfl)) hex ?_
            try simp only [Act.put, List.setIfInBounds_toArray, List.set_cons_zero, List.set_cons_succ]
            refine all_take 11 rfl (by kernel_rfl) (FlowsIf.skip (by rfl)) hex ?_
            try simp only [Act.put, List.setIfInBounds_toArray, List.set_cons_zero, List.set_cons_succ]
            refine all_take 12 rfl (by kernel_rfl) (FlowsIf.skip (by rfl)) hex ?_
            try simp only [Act.put, List.setIfInBounds_toArray, List.set_cons_zero, List.set_cons_succ]
            refine all_take 13 rfl (by kernel_rfl) (FlowsIf.skip (by rfl)) hex ?_
            try simp only [Act.put, List.setIfInBounds_toArray, List.set_cons_zero, List.set_cons_succ]
            refine all_take 14 rfl (by kernel_rfl) (FlowsIf.skip (by rfl)) hex ?_
            try simp only [Act.put, List.setIfInBounds_toArray, List.set_cons_zero, List.set_cons_succ]
            refine all_take 15 rfl (by kernel_rfl) (FlowsIf.skip (by rfl)) hex ?_
            try simp only [Act.put, List.setIfInBounds_toArray, List.set_cons_zero, List.set_cons_succ]
            refine all_take 16 rfl (by kernel_rfl) (FlowsIf.skip (by rfl)) hex ?_
            try simp only [Act.put, List.setIfInBounds_toArray, List.set_cons_zero, List.set_cons_succ]
            refine all_take 17 rfl (by kernel_rfl) (FlowsIf.skip (by rfl)) hex ?_
            try simp only [Act.put, List.setIfInBounds_toArray, List.set_cons_zero, List.set_cons_succ]
            refine all_take 18 (v := ?_) rfl (by kernel_rfl) (FlowsIf.read (by rfl) ?_) hex ?_
            rotate_left
            focus (intro w' hSw; go_simp; try (with_reducible rfl))
            try simp only [Act.put, List.setIfInBounds_toArray, List.set_cons_zero, List.set_cons_succ]
            refine all_stop (by kernel_rfl) ?_
            intro W1 hW1
            refine till_done (by kernel_rfl) ?_
            have HB1 := Lib.hid (HBI.out.trans (hW1.mono HBI.out.size))
            obtain ⟨⟨y0, y1, y2, y3, y4, y5, y6, yl⟩, cx, xl⟩ := HS.out W1 hW1
            clear hex hW1
            have HNM := Lib.hid (show ∀ u, O[O.length]? = some u → ltR g u.1 y.1 = false from fun u hu => by simp at hu)
            by_cases hcm : oc = O.length
            · subst hcm
              have hle := HLB.out
              have HOW1 := Lib.hid (own_belowW HOWN.out HB1.out)
              have HSZ := Lib.hid (show w.heap.size ≤ W1.heap.size from Nat.le_trans HBR.out.size HB1.out.size)
              go_wp2_with (first
                | (at_builtin
                   (refine wpList_append_fresh (W1) rfl (.tmp 37) (.tmp 40) 47 rfl w.heap.size 55 (.agg #[.int .i64 0, .int .i64 0, .slice none 0 0, .int .u64 0, .int .u64 0, .int .u64 0, .int .u64 0]) 7 72 und47 inf55 rfl (by decide) (.slice none 0 0) (0) ([]) (by rfl) (World.ownsRow_nil _ _ _ _) (⟨ok, 0, none⟩) (O.length) (O.length) ((O.take (O.length)).flatMap encR) (by rfl) (by rw [flatR_len, List.length_take, Nat.min_eq_left (by omega)]) ?hnew (encR_one (fun p hp => HONE.out W1 HB1.out p (List.mem_of_mem_take hp))) (by unfold maxLen; omega) (by omega) (HSZ.out) ?_)
                   case hnew => exact row_take HOW1.out (O.length)
                   intro v2 w2 hT2 hg2 ho2
                   rw [Nat.zero_add, List.nil_append] at hT2
                   obtain ⟨a2, c2, rfl⟩ := owns_slice' hT2
                   have hb2 : Below wo.heap.size wo w2 := HB1.out.grown hg2 HB1.out.size (fun k hk => by cases hk)
                   have hh := (H.out.below HBR.out).below hb2
                   have cx2 : w2.cell? ⟨x, 2, none⟩ = some (.slice (some ⟨lk, 0, none⟩) L.length lc) := hh.box.cell (j := 2) rfl
                   have xl2 := hh.box.lt
                   obtain ⟨y20, y21, y22, y23, y24, y25, y26, yl2⟩ := HYC.out.below hb2
                   have HK2 : Hid (∀ k, (Value.slice a2 (O.length) c2).ownBlock = some k → wo.heap.size ≤ k) := Lib.hid fun k hk => by
                     rcases ho2 with e | ⟨g', e, hg'⟩
                     · rw [e] at hk; cases hk
                     · rw [hk] at e; cases e; exact Nat.le_trans HB1.out.size hg'
                   have HT2 := Lib.hid hT2
                   have HB2 := Lib.hid hb2
                   have HSZ2 := Lib.hid (show w.heap.size ≤ w2.heap.size from Nat.le_trans HBR.out.size hb2.size)
                   clear hT2 hg2 ho2 hh hb2 y0 y1 y2 y3 y4 y5 y6 yl cx xl)
                | (at_builtin
                   (refine wpList_append_fresh (w2.alloc (.cells (encR y).toArray 55)) rfl (.tmp 42) (.tmp 50) 47 rfl w.heap.size 55 (.agg #[.int .i64 0, .int .i64 0, .slice none 0 0, .int .u64 0, .int .u64 0, .int .u64 0, .int .u64 0]) 7 72 und47 inf55 rfl (by decide) (.slice a2 (O.length) c2) (O.length) ((O.take (O.length)).flatMap encR) (by rfl) (own_belowW HT2.out ((Below.refl _ _).alloc (Nat.le_refl _) _)) (⟨w2.heap.size, 0, none⟩) (1) (1) (encR y) (by rfl) (rfl) ?hnew (fun u hu => encR_one (O := [y]) (w := wo) (fun p hp => by simp at hp; subst hp; exact HYG.out) u (by simpa using hu)) (by unfold maxLen; omega) (by omega) (by have := HSZ2.out; simp; omega) ?_)
                   case hnew => intro j' u hu; rw [Go.WideShapes.add_plain, Nat.zero_add]; exact (VarAt.new w2 55 (encR y)).cell hu
                   intro v3 w3 hT3 hg3 ho3
                   have hl3 : (O.take (O.length) ++ [y]).length = (O.length) + 1 := by rw [List.length_append, List.length_take, List.length_singleton, Nat.min_eq_left (by omega)]
                   have hT3' : w3.ownsRow w.heap.size 55 7 v3 (O.take (O.length) ++ [y]).length ((O.take (O.length) ++ [y]).flatMap encR) := by
                     rw [hl3, List.flatMap_append]; simpa using hT3
                   obtain ⟨k3, c3, rfl, -, hc3⟩ := row_addr hT3' (by rw [hl3]; omega)
                   rw [hl3] at hc3 hT3'
                   have hb3 : Below wo.heap.size wo w3 := (HB2.out.alloc HB2.out.size _).grown hg3 (by have := HB2.out.size; simp; omega) (fun k hk => by
                     exact HK2.out k hk)
                   have HK3 : Hid (∀ k, (Value.slice (some ⟨k3, 0, none⟩) (O.take (O.length) ++ [y]).length c3).ownBlock = some k → wo.heap.size ≤ k) := Lib.hid fun k hk => by
                     rcases ho3 with e | ⟨g', e, hg'⟩
                     · rw [e] at hk; exact HK2.out k hk
                     · rw [hk] at e; cases e; simp at hg'; have := HB2.out.size; omega
                   rw [hl3]
                   have HT3 := Lib.hid hT3'
                   have HB3 := Lib.hid hb3
                   have HSZ3 := Lib.hid (show w.heap.size ≤ w3.heap.size from Nat.le_trans HBR.out.size hb3.size)
                   clear hT3 hT3' hg3 ho3 hb3 hl3)
                | (at_builtin; refine wpList_append_none w3 rfl (.tmp 52) (.tmp 55) 47 rfl 55 i55 und47 I55.out (some ⟨k3, 0, none⟩) (O.length + 1) c3 (by rfl) hc3 (some ⟨ok, 0, none⟩) (0) (by rfl) ?_)
                | fail)
              go_tidy
              refine ⟨NXT.out O.length _ _ (Nat.le_refl _) HLTS.out HNM.out ?_ HB3.out, by simp [intOf]; omega⟩
              have := HT3.out
              rw [List.flatMap_append] at this
              rw [List.drop_length]
              simpa using this
            · have hcm2 : ¬ (O.length = oc) := fun e => hcm e.symm
              have hle := HLB.out
              have HOW1 := Lib.hid (own_belowW HOWN.out HB1.out)
              have HSZ := Lib.hid (show w.heap.size ≤ W1.heap.size from Nat.le_trans HBR.out.size HB1.out.size)
              go_wp2_with (first
                | (at_builtin
                   (refine wpList_append_fresh (W1) rfl (.tmp 37) (.tmp 40) 47 rfl w.heap.size 55 (.agg #[.int .i64 0, .int .i64 0, .slice none 0 0, .int .u64 0, .int .u64 0, .int .u64 0, .int .u64 0]) 7 72 und47 inf55 rfl (by decide) (.slice none 0 0) (0) ([]) (by rfl) (World.ownsRow_nil _ _ _ _) (⟨ok, 0, none⟩) (O.length) (oc) ((O.take (O.length)).flatMap encR) (by rfl) (by rw [flatR_len, List.length_take, Nat.min_eq_left (by omega)]) ?hnew (encR_one (fun p hp => HONE.out W1 HB1.out p (List.mem_of_mem_take hp))) (by unfold maxLen; omega) (by omega) (HSZ.out) ?_)
                   case hnew => exact row_take HOW1.out (O.length)
                   intro v2 w2 hT2 hg2 ho2
                   rw [Nat.zero_add, List.nil_append] at hT2
                   obtain ⟨a2, c2, rfl⟩ := owns_slice' hT2
                   have hb2 : Below wo.heap.size wo w2 := HB1.out.grown hg2 HB1.out.size (fun k hk => by cases hk)
                   have hh := (H.out.below HBR.out).below hb2
                   have cx2 : w2.cell? ⟨x, 2, none⟩ = some (.slice (some ⟨lk, 0, none⟩) L.length lc) := hh.box.cell (j := 2) rfl
                   have xl2 := hh.box.lt
                   obtain ⟨y20, y21, y22, y23, y24, y25, y26, yl2⟩ := HYC.out.below hb2
                   have HK2 : Hid (∀ k, (Value.slice a2 (O.length) c2).ownBlock = some k → wo.heap.size ≤ k) := Lib.hid fun k hk => by
                     rcases ho2 with e | ⟨g', e, hg'⟩
                     · rw [e] at hk; cases hk
                     · rw [hk] at e; cases e; exact Nat.le_trans HB1.out.size hg'
                   have HT2 := Lib.hid hT2
                   have HB2 := Lib.hid hb2
                   have HSZ2 := Lib.hid (show w.heap.size ≤ w2.heap.size from Nat.le_trans HBR.out.size hb2.size)
                   clear hT2 hg2 ho2 hh hb2 y0 y1 y2 y3 y4 y5 y6 yl cx xl)
                | (at_builtin
                   (refine wpList_append_fresh (w2.alloc (.cells (encR y).toArray 55)) rfl (.tmp 42) (.tmp 50) 47 rfl w.heap.size 55 (.agg #[.int .i64 0, .int .i64 0, .slice none 0 0, .int .u64 0, .int .u64 0, .int .u64 0, .int .u64 0]) 7 72 und47 inf55 rfl (by decide) (.slice a2 (O.length) c2) (O.length) ((O.take (O.length)).flatMap encR) (by rfl) (own_belowW HT2.out ((Below.refl _ _).alloc (Nat.le_refl _) _)) (⟨w2.heap.size, 0, none⟩) (1) (1) (encR y) (by rfl) (rfl) ?hnew (fun u hu => encR_one (O := [y]) (w := wo) (fun p hp => by simp at hp; subst hp; exact HYG.out) u (by simpa using hu)) (by unfold maxLen; omega) (by omega) (by have := HSZ2.out; simp; omega) ?_)
                   case hnew => intro j' u hu; rw [Go.WideShapes.add_plain, Nat.zero_add]; exact (VarAt.new w2 55 (encR y)).cell hu
                   intro v3 w3 hT3 hg3 ho3
                   have hl3 : (O.take (O.length) ++ [y]).length = (O.length) + 1 := by rw [List.length_append, List.length_take, List.length_singleton, Nat.min_eq_left (by omega)]
                   have hT3' : w3.ownsRow w.heap.size 55 7 v3 (O.take (O.length) ++ [y]).length ((O.take (O.length) ++ [y]).flatMap encR) := by
                     rw [hl3, List.flatMap_append]; simpa using hT3
                   obtain ⟨k3, c3, rfl, -, hc3⟩ := row_addr hT3' (by rw [hl3]; omega)
                   rw [hl3] at hc3 hT3'
                   have hb3 : Below wo.heap.size wo w3 := (HB2.out.alloc HB2.out.size _).grown hg3 (by have := HB2.out.size; simp; omega) (fun k hk => by
                     exact HK2.out k hk)
                   have HK3 : Hid (∀ k, (Value.slice (some ⟨k3, 0, none⟩) (O.take (O.length) ++ [y]).length c3).ownBlock = some k → wo.heap.size ≤ k) := Lib.hid fun k hk => by
                     rcases ho3 with e | ⟨g', e, hg'⟩
                     · rw [e] at hk; exact HK2.out k hk
                     · rw [hk] at e; cases e; simp at hg'; have := HB2.out.size; omega
                   rw [hl3]
                   have HT3 := Lib.hid hT3'
                   have HB3 := Lib.hid hb3
                   have HSZ3 := Lib.hid (show w.heap.size ≤ w3.heap.size from Nat.le_trans HBR.out.size hb3.size)
                   clear hT3 hT3' hg3 ho3 hb3 hl3)
                | (at_builtin; refine wpList_append_none w3 rfl (.tmp 52) (.tmp 55) 47 rfl 55 i55 und47 I55.out (some ⟨k3, 0, none⟩) (O.length + 1) c3 (by rfl) hc3 (some ⟨ok, O.length * 7, none⟩) (oc - O.length) (by rfl) ?_)
                | fail)
              go_tidy
              refine ⟨NXT.out O.length _ _ (Nat.le_refl _) HLTS.out HNM.out ?_ HB3.out, by simp [intOf]; omega⟩
              have := HT3.out
              rw [List.flatMap_append] at this
              rw [List.drop_length]
              simpa using this
    · obtain rfl : j = L.length := by omega
      have HEND := Lib.hid (show OrdEnd w g S L (.returned (.slice oa O.length oc)) wo from by
        have hp := HP.out
        rw [List.take_length] at hp
        refine ⟨_, O, rfl, HOWN.out, ?_, hp, HBR.out⟩
        refine ord_eq H.out.ok.apart ?_ HSO.out
        rw [← H.out.lst]; exact hp.map _)
      go_wp2
      go_tidy
      exact HR.out _ _ HEND.out
end
end Go.Proofs.Ytamjdghjaimihaa
