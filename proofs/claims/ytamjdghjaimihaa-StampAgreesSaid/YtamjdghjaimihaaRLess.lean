/- The reference: which of two comes first. Conditions: each law's own. -/
import Derived.Test.YtamjdghjaimihaaRStamp2
namespace Go.Proofs.Ytamjdghjaimihaa
open Go.ChangeShapes Go.WideShapes Go.ChangeAt Go.RowKit

def BoxR (p : Nat) (y : RefO) (W : World) : Prop :=
  W.cell? ⟨p, 0, none⟩ = some (.int .i64 y.1.id.s) ∧ W.cell? ⟨p, 1, none⟩ = some (.int .i64 y.1.id.q) ∧ W.cell? ⟨p, 2, none⟩ = some y.2 ∧ W.cell? ⟨p, 3, none⟩ = some (.int .u64 (y.1.kn 0)) ∧
  W.cell? ⟨p, 4, none⟩ = some (.int .u64 (y.1.kn 1)) ∧ W.cell? ⟨p, 5, none⟩ = some (.int .u64 (y.1.kn 2)) ∧ W.cell? ⟨p, 6, none⟩ = some (.int .u64 (y.1.kn 3)) ∧ p < W.heap.size
theorem BoxR.of {p : Nat} {y : RefO} {W : World} (h : VarAt W p 55 (encR y)) : BoxR p y W := ⟨h.cell (j := 0) rfl, h.cell (j := 1) rfl, h.cell (j := 2) rfl, h.cell (j := 3) rfl, h.cell (j := 4) rfl, h.cell (j := 5) rfl, h.cell (j := 6) rfl, h.lt⟩
def LessF (W0 : World) (p q : Nat) (a b : RefO) (W : World) : Prop := Below W0.heap.size W0 W ∧ BoxR p a W ∧ BoxR q b W
def ltR (g : Int) (a b : OneD) : Bool := decide (LtO g a b)
theorem lessId_iff (a b : IdD) : lessId a b = decide (a.s < b.s ∨ (a.s = b.s ∧ a.q < b.q)) := by
  unfold lessId
  rw [Bool.eq_iff_iff]; simp
theorem ltR_ne {g : Int} {a b : OneD} (h : stampS g a ≠ stampS g b) : ltR g a b = decide (stampS g a < stampS g b) := by
  unfold ltR; rw [decide_eq_decide]; unfold LtO; omega
theorem ltR_eq {g : Int} {a b : OneD} (h : stampS g a = stampS g b) : ltR g a b = lessId a.id b.id := by
  rw [lessId_iff]
  unfold ltR; rw [decide_eq_decide]; unfold LtO; omega
def BoolE (v : Bool) (w : World) (e : Ending) (w' : World) : Prop := e = .returned (.bool v) ∧ Below w.heap.size w w'
set_option maxHeartbeats 8000000 in
set_option maxRecDepth 100000 in
theorem c54 {w : World} {x : Nat} {g : Int} {cv lv : Value} {a b : RefO} (hx : VarAt w x 64 [.int .i64 g, cv, lv]) (hg : 0 ≤ g ∧ g < 4) (ha : GOk a w) (hb : GOk b w) : Calls Try.prog 54 #[.pointer (some ⟨x, 0, none⟩), oneV a, oneV b] w (BoolE (ltR g a.1 b.1) w) := by
  refine gen (S := BoolE (ltR g a.1 b.1) w) fun R hR => ?_
  have hb0 : Below w.heap.size w ((w.alloc (.cells (encR a).toArray 55)).alloc (.cells (encR b).toArray 55)) := ((Below.refl _ _).alloc (Nat.le_refl _) _).alloc (by simp) _
  have hA : VarAt ((w.alloc (.cells (encR a).toArray 55)).alloc (.cells (encR b).toArray 55)) w.heap.size 55 (encR a) := (VarAt.new w 55 (encR a)).alloc _
  have hB : VarAt ((w.alloc (.cells (encR a).toArray 55)).alloc (.cells (encR b).toArray 55)) (w.heap.size + 1) 55 (encR b) := by
    have := VarAt.new (w.alloc (.cells (encR a).toArray 55)) 55 (encR b)
    simpa using this
  obtain ⟨W0, hW0⟩ : ∃ W0 : World, W0 = (w.alloc (.cells (encR a).toArray 55)).alloc (.cells (encR b).toArray 55) := ⟨_, rfl⟩
  rw [← hW0] at hb0 hA hB
  have hS : ∀ W, Below W0.heap.size W0 W → LessF W0 w.heap.size (w.heap.size + 1) a b W := fun W h => ⟨h, .of (hA.keep h hA.lt), .of (hB.keep h hB.lt)⟩
  have hlow : ∀ W, Below W0.heap.size W0 W → Below w.heap.size w W := fun W h => hb0.trans (h.mono hb0.size)
  have h45 : ∀ W z, GOk z w → Below W0.heap.size W0 W → Calls Try.prog 45 #[.pointer (some ⟨x, 0, none⟩), oneV z] W fun e w' => e = .returned (.int .u64 (stampS g z.1)) ∧ LessF W0 w.heap.size (w.heap.size + 1) a b w' := fun W z hz hb => by
    refine (c45 (hx.keep (hlow W hb) hx.lt) hg (hz.below (hlow W hb))).mono ?_
    rintro e w' ⟨rfl, h2⟩
    exact ⟨rfl, hS w' (hb.trans (h2.mono hb.size))⟩
  have h45a := fun W (h : LessF W0 w.heap.size (w.heap.size + 1) a b W) => h45 W a ha h.1
  have h45b := fun W (h : LessF W0 w.heap.size (w.heap.size + 1) a b W) => h45 W b hb h.1
  have hfin : ∀ v W, v = ltR g a.1 b.1 → LessF W0 w.heap.size (w.heap.size + 1) a b W → R (.returned (.bool v)) W := fun v W hv hb => hR _ _ ⟨by rw [hv], hlow W hb.1⟩
  obtain ⟨⟨aid, agr, akn⟩, av⟩ := a
  obtain ⟨⟨bid, bgr, bkn⟩, bv⟩ := b
  obtain ⟨aa, ac, hv, -⟩ := _root_.id ha.row
  obtain ⟨ba, bc, hv2, -⟩ := _root_.id hb.row
  simp only at hv hv2
  subst hv hv2
  unfold encR at hW0
  have EG : ∀ args w, (callFunc 45 args).run Try.prog w = .ok (.enter 45 args) w := enters_of Try.func45 (by kernel_rfl) rfl
  have H45a := Lib.hid h45a
  have H45b := Lib.hid h45b
  have END := Lib.hid hfin
  have hS0 := hS W0.drew (Below.refl _ _).drew
  have HS := Lib.hid hS
  have hex := Exists.intro _ hS0
  clear h45 h45a h45b hfin hR hx ha hb hA hB hS hlow hb0
  simp only [oneV] at H45a H45b ⊢
  go_enter Try.func54, Try.ntmps54
  go_upto_region 1 with fail
  rw [← hW0]
  have hw0 := hW0
  clear hW0
  refine all_start (LessF W0 w.heap.size (w.heap.size + 1) (⟨aid, agr, akn⟩, .slice aa agr.length ac) (⟨bid, bgr, bkn⟩, .slice ba bgr.length bc)) 7 (by kernel_rfl) (hS0) ?_
  show AllTill _ _ _ _ _ _ 7 (Array.replicate 7 false) _
  refine all_take 0 (v := ?_) rfl (by kernel_rfl) (FlowsIf.read (by rfl) ?_) hex ?_
  rotate_left
  focus (intro w' hSw; obtain ⟨hbw, ⟨a0, a1, a2, a3, a4, a5, a6, al⟩, ⟨b0, b1, b2, b3, b4, b5, b6, bl⟩⟩ := hSw; go_simp; try (with_reducible rfl))
  try simp only [Act.put, List.setIfInBounds_toArray, List.set_cons_zero, List.set_cons_succ]
  refine all_take 1 (v := ?_) rfl (by kernel_rfl) (FlowsIf.read (by rfl) ?_) hex ?_
  rotate_left
  focus (intro w' hSw; obtain ⟨hbw, ⟨a0, a1, a2, a3, a4, a5, a6, al⟩, ⟨b0, b1, b2, b3, b4, b5, b6, bl⟩⟩ := hSw; go_simp; try (with_reducible rfl))
  try simp only [Act.put, List.setIfInBounds_toArray, List.set_cons_zero, List.set_cons_succ]
  refine all_take 2 (v := ?_) rfl (by kernel_rfl) (FlowsIf.call (f := 45) (args := ?_) (by rfl) ?_ ?_) hex ?_
  rotate_left 2
  focus (intro w'; go_simp; try (with_reducible rfl))
  focus (exact H45a.out)
  try simp only [Act.put, List.setIfInBounds_toArray, List.set_cons_zero, List.set_cons_succ]
  refine all_take 3 (v := ?_) rfl (by kernel_rfl) (FlowsIf.read (by rfl) ?_) hex ?_
  rotate_left
  focus (intro w' hSw; obtain ⟨hbw, ⟨a0, a1, a2, a3, a4, a5, a6, al⟩, ⟨b0, b1, b2, b3, b4, b5, b6, bl⟩⟩ := hSw; go_simp; try (with_reducible rfl))
  try simp only [Act.put, List.setIfInBounds_toArray, List.set_cons_zero, List.set_cons_succ]
  refine all_take 4 (v := ?_) rfl (by kernel_rfl) (FlowsIf.read (by rfl) ?_) hex ?_
  rotate_left
  focus (intro w' hSw; obtain ⟨hbw, ⟨a0, a1, a2, a3, a4, a5, a6, al⟩, ⟨b0, b1, b2, b3, b4, b5, b6, bl⟩⟩ := hSw; go_simp; try (with_reducible rfl))
  try simp only [Act.put, List.setIfInBounds_toArray, List.set_cons_zero, List.set_cons_succ]
  refine all_take 5 (v := ?_) rfl (by kernel_rfl) (FlowsIf.call (f := 45) (args := ?_) (by rfl) ?_ ?_) hex ?_
  rotate_left 2
  focus (intro w'; go_simp; try (with_reducible rfl))
  focus (exact H45b.out)
  try simp only [Act.put, List.setIfInBounds_toArray, List.set_cons_zero, List.set_cons_succ]
  refine all_take 6 (v := ?_) rfl (by kernel_rfl) (FlowsIf.read (by rfl) ?_) hex ?_
  rotate_left
  focus (intro w' hSw; obtain ⟨hbw, ⟨a0, a1, a2, a3, a4, a5, a6, al⟩, ⟨b0, b1, b2, b3, b4, b5, b6, bl⟩⟩ := hSw; go_simp; try (with_reducible rfl))
  try simp only [Act.put, List.setIfInBounds_toArray, List.set_cons_zero, List.set_cons_succ]
  refine all_stop (by kernel_rfl) ?_
  intro W1 hS1
  refine till_done (by kernel_rfl) ?_
  have HS1 := Lib.hid hS1
  obtain ⟨sa, hsa⟩ : ∃ s, s = stampS g (⟨aid, agr, akn⟩ : OneD) := ⟨_, rfl⟩
  obtain ⟨sb, hsb⟩ : ∃ s, s = stampS g (⟨bid, bgr, bkn⟩ : OneD) := ⟨_, rfl⟩
  rw [← hsa] at H45a ⊢
  rw [← hsb] at H45b ⊢
  have HSA := Lib.hid hsa
  have HSB := Lib.hid hsb
  clear hsa hsb
  by_cases hne : sa = sb
  · have hneb : (sa != sb) = false := by simp [hne]
    have HE := Lib.hid (ltR_eq (g := g) (a := (⟨aid, agr, akn⟩ : OneD)) (b := (⟨bid, bgr, bkn⟩ : OneD)) (by rw [← HSA.out, ← HSB.out]; exact hne))
    have H23 := Lib.hid (c23 aid bid W1)
    obtain ⟨hbw, ⟨a0, a1, a2, a3, a4, a5, a6, al⟩, ⟨b0, b1, b2, b3, b4, b5, b6, bl⟩⟩ := hS1
    have HBW := Lib.hid hbw
    clear hne hbw a2 a3 a4 a5 a6 b2 b3 b4 b5 b6
    go_wp2_with (first | (go_at_call 23; refine H23.out.mono ?_; rintro e w2 ⟨rfl, hb2⟩; have HB2 := Lib.hid hb2; clear hb2) | fail)
    go_tidy
    exact END.out _ _ HE.out.symm (HS.out _ (HBW.out.trans (HB2.out.mono HBW.out.size)))
  · have hneb : (sa != sb) = true := by simpa using hne
    have HE := Lib.hid (ltR_ne (g := g) (a := (⟨aid, agr, akn⟩ : OneD)) (b := (⟨bid, bgr, bkn⟩ : OneD)) (by rw [← HSA.out, ← HSB.out]; exact hne))
    clear hne
    go_upto_region 2 with fail
    have hS2 := HS.out W1.drew (HS1.out.1.trans (Below.refl _ _).drew |>.mono (Nat.le_refl _))
    refine all_start (LessF W0 w.heap.size (w.heap.size + 1) (⟨aid, agr, akn⟩, .slice aa agr.length ac) (⟨bid, bgr, bkn⟩, .slice ba bgr.length bc)) 8 (by kernel_rfl) (hS2) ?_
    show AllTill _ _ _ _ _ _ 8 (Array.replicate 8 false) _
    refine all_take 0 (v := ?_) rfl (by kernel_rfl) (FlowsIf.read (by rfl) ?_) hex ?_
    rotate_left
    focus (intro w' hSw; obtain ⟨hbw, ⟨a0, a1, a2, a3, a4, a5, a6, al⟩, ⟨b0, b1, b2, b3, b4, b5, b6, bl⟩⟩ := hSw; go_simp; try (with_reducible rfl))
    try simp only [Act.put, List.setIfInBounds_toArray, List.set_cons_zero, List.set_cons_succ]
    refine all_take 1 (v := ?_) rfl (by kernel_rfl) (FlowsIf.read (by rfl) ?_) hex ?_
    rotate_left
    focus (intro w' hSw; obtain ⟨hbw, ⟨a0, a1, a2, a3, a4, a5, a6, al⟩, ⟨b0, b1, b2, b3, b4, b5, b6, bl⟩⟩ := hSw; go_simp; try (with_reducible rfl))
    try simp only [Act.put, List.setIfInBounds_toArray, List.set_cons_zero, List.set_cons_succ]
    refine all_take 2 (v := ?_) rfl (by kernel_rfl) (FlowsIf.call (f := 45) (args := ?_) (by rfl) ?_ ?_) hex ?_
    rotate_left 2
    focus (intro w'; go_simp; try (with_reducible rfl))
    focus (exact H45a.out)
    try simp only [Act.put, List.setIfInBounds_toArray, List.set_cons_zero, List.set_cons_succ]
    refine all_take 3 (v := ?_) rfl (by kernel_rfl) (FlowsIf.read (by rfl) ?_) hex ?_
    rotate_left
    focus (intro w' hSw; obtain ⟨hbw, ⟨a0, a1, a2, a3, a4, a5, a6, al⟩, ⟨b0, b1, b2, b3, b4, b5, b6, bl⟩⟩ := hSw; go_simp; try (with_reducible rfl))
    try simp only [Act.put, List.setIfInBounds_toArray, List.set_cons_zero, List.set_cons_succ]
    refine all_take 4 (v := ?_) rfl (by kernel_rfl) (FlowsIf.read (by rfl) ?_) hex ?_
    rotate_left
    focus (intro w' hSw; obtain ⟨hbw, ⟨a0, a1, a2, a3, a4, a5, a6, al⟩, ⟨b0, b1, b2, b3, b4, b5, b6, bl⟩⟩ := hSw; go_simp; try (with_reducible rfl))
    try simp only [Act.put, List.setIfInBounds_toArray, List.set_cons_zero, List.set_cons_succ]
    refine all_take 5 (v := ?_) rfl (by kernel_rfl) (FlowsIf.call (f := 45) (args := ?_) (by rfl) ?_ ?_) hex ?_
    rotate_left 2
    focus (intro w'; go_simp; try (with_reducible rfl))
    focus (exact H45b.out)
    try simp only [Act.put, List.setIfInBounds_toArray, List.set_cons_zero, List.set_cons_succ]
    refine all_take 6 (v := ?_) rfl (by kernel_rfl) (FlowsIf.read (by rfl) ?_) hex ?_
    rotate_left
    focus (intro w' hSw; obtain ⟨hbw, ⟨a0, a1, a2, a3, a4, a5, a6, al⟩, ⟨b0, b1, b2, b3, b4, b5, b6, bl⟩⟩ := hSw; go_simp; try (with_reducible rfl))
    try simp only [Act.put, List.setIfInBounds_toArray, List.set_cons_zero, List.set_cons_succ]
    refine all_take 7 (v := ?_) rfl (by kernel_rfl) (FlowsIf.read (by rfl) ?_) hex ?_
    rotate_left
    focus (intro w' hSw; obtain ⟨hbw, ⟨a0, a1, a2, a3, a4, a5, a6, al⟩, ⟨b0, b1, b2, b3, b4, b5, b6, bl⟩⟩ := hSw; go_simp; try (with_reducible rfl))
    try simp only [Act.put, List.setIfInBounds_toArray, List.set_cons_zero, List.set_cons_succ]
    refine all_stop (by kernel_rfl) ?_
    intro W2 hS2
    refine till_done (by kernel_rfl) ?_
    have HS2 := Lib.hid hS2
    go_wp2
    go_tidy
    refine END.out _ _ ?_ HS2.out
    rw [HE.out, ← HSA.out, ← HSB.out]
end Go.Proofs.Ytamjdghjaimihaa
