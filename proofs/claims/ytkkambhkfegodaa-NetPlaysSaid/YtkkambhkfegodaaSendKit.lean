/- What Send leaves: frames, and the step that appends to a bag. Conditions: each law's own. -/
import Derived.Test.YtkkambhkfegodaaBase
namespace Go.Proofs.Ytkkambhkfegodaa
open Go.ChangeShapes Go.WideShapes Go.ChangeAt Go.RowKit

theorem underlying60 : Try.prog.underlying 60 = some (.map 54 56) := by kernel_rfl
theorem zero56 (w : World) : (zeroValue 56).run Try.prog w = .ok (.slice none 0 0) w := by kernel_rfl
theorem underlying56 : Try.prog.underlying 56 = some (.slice 22) := by kernel_rfl
theorem info22 : (Try.prog.info? 22).map (fun i => (i.zero, i.size, i.bytes)) = some (some (.slice none 0 0), 1, 24) := by kernel_rfl
/-- 'm[k]' at a link. -/
theorem look54 {w : World} {r : Nat} {l : List ((Int × Int) × Value × Nat)} {clock : Nat} (h : MapAt encL w r l clock) (f t : Int) :
    (Instr.lookup 60 (.map (some r)) (.agg #[.int .i64 f, .int .i64 t]) false).run Try.prog w = .ok ((valOf l (f, t)).getD (.slice none 0 0)) w := by
  have := run_lookup_made law54 underlying60 h (f, t) zero56
  rw [findIn_val] at this
  exact this

/-- w' is w, but for what A leaves out and for new blocks. -/
structure Frame (A : Nat → Prop) (w w' : World) : Prop where
  os : w'.os = w.os
  tape : w'.tape = w.tape
  output : w'.output = w.output
  size : w.heap.size ≤ w'.heap.size
  block : ∀ j, j < w.heap.size → A j → w'.heap[j]? = w.heap[j]?
theorem Frame.refl (A : Nat → Prop) (w : World) : Frame A w w := ⟨rfl, rfl, rfl, Nat.le_refl _, fun _ _ _ => rfl⟩
theorem Frame.trans {A : Nat → Prop} {a b c : World} (h : Frame A a b) (h2 : Frame A b c) : Frame A a c :=
  ⟨h2.os.trans h.os, h2.tape.trans h.tape, h2.output.trans h.output, Nat.le_trans h.size h2.size, fun j hj hA => (h2.block j (Nat.lt_of_lt_of_le hj h.size) hA).trans (h.block j hj hA)⟩
theorem Frame.of_below {A : Nat → Prop} {a b : World} (h : Below a.heap.size a b) : Frame A a b := ⟨h.os, h.tape, h.output, h.size, fun j hj _ => h.block j hj⟩
theorem Frame.of_grown {A : Nat → Prop} {a b : World} {row : Option Nat} (h : a.grownBy b row) (hr : ∀ j, A j → some j ≠ row) : Frame A a b := ⟨h.os, h.tape, h.output, h.size, fun j hj hA => h.block j hj (hr j hA)⟩
theorem Frame.put {A : Nat → Prop} (w : World) (r : Nat) (l : List ((Int × Int) × Value × Nat)) (clock : Nat) (hr : ∀ j, A j → j ≠ r) : Frame A w (putMap encL w r l clock) :=
  ⟨rfl, rfl, rfl, by rw [putMap_size]; exact Nat.le_refl _, fun j _ hA => putMap_other _ _ _ _ (hr j hA)⟩
theorem Frame.below {A : Nat → Prop} {B : Nat} {a b c : World} (h : Below B a b) (h2 : Frame A b c) (hA : ∀ j, j < B → A j) (hB : B ≤ b.heap.size) : Below B a c :=
  ⟨h2.os.trans h.os, h2.tape.trans h.tape, h2.output.trans h.output, Nat.le_trans h.size h2.size, fun j hj => (h2.block j (by omega) (hA j hj)).trans (h.block j hj)⟩
theorem RowOf.put {w : World} {r : Nat} {l l' : List ((Int × Int) × Value × Nat)} {clock clock' : Nat} (hM : MapAt encL w r l clock) {v : Value} {bs : List Int} (h : RowOf encB 1 w v bs) : RowOf encB 1 (putMap encL w r l' clock') v bs := by
  obtain ⟨a, cap, hv, h1, h2, h3⟩ := h
  refine ⟨a, cap, hv, h1, h2, fun hp => ?_⟩
  obtain ⟨b, o, ha, hlt, hc⟩ := h3 hp
  have hbr : b ≠ r := by
    intro e
    subst e
    obtain ⟨x, hx⟩ : ∃ x, bs[0]? = some x := ⟨bs[0], by rw [List.getElem?_eq_getElem hp]⟩
    have := hc 0 0 x _ hx rfl
    unfold World.cell? at this
    unfold MapAt at hM
    simp [hM] at this
  refine ⟨b, o, ha, by rw [putMap_size]; exact hlt, fun i j x u hx hu => ?_⟩
  rw [World.cell?_of_block (a := ⟨b, o + i * 1 + j, none⟩) (putMap_other w r l' clock' hbr)]
  exact hc i j x u hx hu

def SendPost (x r : Nat) (l : List ((Int × Int) × Value × Nat)) (clock : Nat) (f t : Int) (bs : List Int) (v : Value) (n base : Nat) (xs : List Value) (w : World) (e : Ending) (w' : World) : Prop :=
  e = .returned (.bool true) ∧ ∃ v3 pv, VarAt w' x 62 [.map (some r)] ∧ MapAt encL w' r (setVal (touch l (f, t) (.slice none 0 0) clock) (f, t) v3) (clockOf l (f, t) clock) ∧ Tail w' base v3 (n + 1) (xs ++ [pv]) ∧ RowOf encB 1 w' pv bs ∧
    (v3.ownBlock = v.ownBlock ∨ ∃ g, v3.ownBlock = some g ∧ w.heap.size ≤ g) ∧ (∀ g, pv.ownBlock = some g → w.heap.size ≤ g ∧ g < w'.heap.size ∧ v3.ownBlock ≠ some g) ∧ Frame (fun j => j ≠ r ∧ some j ≠ v.ownBlock) w w'
theorem Tail.put {w : World} {base : Nat} {v : Value} {n : Nat} {xs : List Value} (h : Tail w base v n xs) {r : Nat} (hr : v.ownBlock ≠ some r) (l : List ((Int × Int) × Value × Nat)) (clock : Nat) : Tail (putMap encL w r l clock) base v n xs :=
  h.keep (by rw [putMap_size]; exact Nat.le_refl _) (fun k hk _ _ => putMap_other _ _ _ _ (fun e => hr (by rw [hk, e])))
theorem RowOf.grown {w w' : World} {row : Option Nat} {v : Value} {bs : List Int} (h : RowOf encB 1 w v bs) (hg : w.grownBy w' row) (hv : ∀ g, v.ownBlock = some g → some g ≠ row) : RowOf encB 1 w' v bs := by
  obtain ⟨a, cap, rfl, h1, h2, h3⟩ := h
  refine ⟨a, cap, rfl, h1, h2, fun hp => ?_⟩
  obtain ⟨b, o, rfl, hlt, hc⟩ := h3 hp
  refine ⟨b, o, rfl, Nat.lt_of_lt_of_le hlt hg.size, fun i j x u hx hu => ?_⟩
  rw [World.cell?_of_block (a := ⟨b, o + i * 1 + j, none⟩) (hg.block b hlt (hv b rfl))]
  exact hc i j x u hx hu
def SendGot (x r K : Nat) (l : List ((Int × Int) × Value × Nat)) (clock : Nat) (f t : Int) (bs : List Int) (v : Value) (n base : Nat) (xs : List Value) (w : World) (v3 : Value) (w3 : World) : Prop :=
  VarAt w3 x 62 [.map (some r)] ∧ VarAt w3 K 54 [.int .i64 f, .int .i64 t] ∧
  (Instr.entryStore 60 (.map (some r)) (.int .i64 (((bornOf l (f, t)).getD clock : Nat) : Int)) v3).run Try.prog w3 = .ok () (putMap encL w3 r (setVal (touch l (f, t) (.slice none 0 0) clock) (f, t) v3) (clockOf l (f, t) clock)) ∧
  SendPost x r l clock f t bs v n base xs w (.returned (.bool true)) (putMap encL w3 r (setVal (touch l (f, t) (.slice none 0 0) clock) (f, t) v3) (clockOf l (f, t) clock))
theorem step_send {x r K p : Nat} {l : List ((Int × Int) × Value × Nat)} {clock : Nat} {f t : Int} {bs : List Int} {v pv : Value} {n base : Nat} {xs : List Value} {w W : World}
    (hxr : x ≠ r) (hvx : v.ownBlock ≠ some x) (hvr : v.ownBlock ≠ some r) (hvK : v.ownBlock ≠ some K) (hbase : base ≤ W.heap.size) (hn : n < 64) (hF : Fresh l clock) (hlv : ∀ g, v.ownBlock = some g → g < w.heap.size)
    {ops : Array Oper} {o : Oper} {a : Act} {C : Act → World → Prop} {Q : Exit → Act → World → Prop} {E : Prop} (hgd : o.guard = none) (S X : Operand)
    (ho : o.op = .call { callee := .builtin .append, args := #[S, X], argTypes := #[56, 56] }) (hs : a.eval S = v) (hX : a.eval X = .slice (some ⟨p, 0, none⟩) 1 1)
    (hx : VarAt W x 62 [.map (some r)]) (hK : VarAt W K 54 [.int .i64 f, .int .i64 t]) (hT : Tail W base v n xs) (hM : MapAt encL W r (touch l (f, t) (.slice none 0 0) clock) (clockOf l (f, t) clock))
    (hFr : Frame (fun j => j ≠ r ∧ some j ≠ v.ownBlock) w W) (hR : RowOf encB 1 W pv bs) (hpv : ∀ g, pv.ownBlock = some g → w.heap.size ≤ g ∧ g < W.heap.size) (hp : W.cell? ⟨p, 0, none⟩ = some pv)
    (h : ∀ a3 c3 w3, SendGot x r K l clock f t bs v n base xs w (.slice a3 (n + 1) c3) w3 → C (a.put o.dst (.slice a3 (n + 1) c3)) w3) : if Region.wanted o (yielded ops a.tmps) = true then Oper.wp Try.prog o a W C Q else E := by
  have h1 : pv.oneCell' = true := by obtain ⟨_, _, rfl, _⟩ := hR; rfl
  refine step_append_tail W hgd S X 56 ho base 22 (.slice none 0 0) 24 underlying56 info22 rfl pv h1 v n xs hs hT p hX hp (by unfold maxLen; omega) (by omega) hbase ?_
  intro v3 w3 hT3 hg3 hv3
  obtain ⟨a3, c3, rfl, -⟩ := id hT3
  have hM3 : MapAt encL w3 r (touch l (f, t) (.slice none 0 0) clock) (clockOf l (f, t) clock) := by
    unfold MapAt; rw [hg3.block r hM.lt (Ne.symm hvr)]; exact hM
  have hx3 := hx.grown hg3 (Ne.symm hvx)
  have hFT := hF.touch (f, t) (.slice none 0 0)
  have hpg : ∀ g, pv.ownBlock = some g → some g ≠ v.ownBlock := fun g hg e => by
    have h1 := (hpv g hg).1
    have h2 := hlv g e.symm
    omega
  have hR3 := hR.grown hg3 hpg
  have hv3' : (Value.slice a3 (n + 1) c3).ownBlock = v.ownBlock ∨ ∃ g, (Value.slice a3 (n + 1) c3).ownBlock = some g ∧ W.heap.size ≤ g := hv3
  have hv3r : (Value.slice a3 (n + 1) c3).ownBlock ≠ some r := by
    rcases hv3' with e | ⟨g, e, hg⟩
    · rw [e]; exact hvr
    · rw [e]; intro e2; injection e2 with e2; have := hM.lt; omega
  refine h a3 c3 w3 ⟨hx3, hK.grown hg3 (Ne.symm hvK), run_entryStore_made hM3 hFT (bornOf_touch l (f, t) (.slice none 0 0) clock) _, rfl, _, pv, hx3.put hxr _ _, putMap_at hM3.lt _ _, hT3.put hv3r _ _, hR3.put hM3, ?_, ?_, ?_⟩
  · rcases hv3' with e | ⟨g, e, hg⟩
    · exact .inl e
    · exact .inr ⟨g, e, Nat.le_trans hFr.size hg⟩
  · intro g hg
    have h1 := hpv g hg
    refine ⟨h1.1, by rw [putMap_size]; exact Nat.lt_of_lt_of_le h1.2 hg3.size, fun e2 => ?_⟩
    rcases hv3' with e | ⟨g2, e, hg2⟩
    · rw [e] at e2; exact hpg g hg e2.symm
    · rw [e] at e2; injection e2 with e2; omega
  · exact (hFr.trans (.of_grown hg3 (fun j hj => hj.2))).trans (.put w3 r _ _ (fun j hj => hj.1))
end Go.Proofs.Ytkkambhkfegodaa
