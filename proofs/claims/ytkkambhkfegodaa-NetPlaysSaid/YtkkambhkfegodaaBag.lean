/- Bag, Clear. Conditions: each law's own. -/
import Derived.Test.YtkkambhkfegodaaMove
namespace Go.Proofs.Ytkkambhkfegodaa
open Go.ChangeShapes Go.WideShapes Go.ChangeAt Go.RowKit

/-- A bag that a call has gathered: its slice v owns its row, and the packets lie elsewhere. -/
def OutAt (w : World) (base : Nat) (v : Value) (ps : List (List Int)) : Prop :=
  ∃ xs : List Value, Tail w base v ps.length xs ∧ (∀ (i : Nat) (u : Value) (b : List Int), xs[i]? = some u → ps[i]? = some b → RowOf encB 1 w u b ∧ ∀ g, u.ownBlock = some g → g < w.heap.size ∧ v.ownBlock ≠ some g) ∧ ∀ g, v.ownBlock = some g → g < w.heap.size ∧ base ≤ g
theorem OutAt.below {w w' : World} {base : Nat} {v : Value} {ps : List (List Int)} (h : OutAt w base v ps) (hb : Below w.heap.size w w') : OutAt w' base v ps := by
  obtain ⟨xs, ht, hp, ho⟩ := h
  refine ⟨xs, ht.below hb (Nat.le_refl _), fun i u b hu hb2 => ?_, fun g hg => ⟨Nat.lt_of_lt_of_le (ho g hg).1 hb.size, (ho g hg).2⟩⟩
  obtain ⟨q1, q2⟩ := hp i u b hu hb2
  exact ⟨q1.keep hb, fun g hg => ⟨Nat.lt_of_lt_of_le (q2 g hg).1 hb.size, (q2 g hg).2⟩⟩
/-- One packet more. -/
theorem OutAt.push {w w' : World} {base : Nat} {v v' pv : Value} {ps : List (List Int)} {b : List Int} {xs : List Value} (ht : Tail w base v ps.length xs)
    (hp : ∀ (i : Nat) (u : Value) (b : List Int), xs[i]? = some u → ps[i]? = some b → RowOf encB 1 w u b ∧ ∀ g, u.ownBlock = some g → g < w.heap.size ∧ v.ownBlock ≠ some g)
    (hT : Tail w' base v' (ps.length + 1) (xs ++ [pv])) (hg : w.grownBy w' v.ownBlock) (hv : v'.ownBlock = v.ownBlock ∨ ∃ g, v'.ownBlock = some g ∧ w.heap.size ≤ g)
    (hr : RowOf encB 1 w pv b) (hpv : ∀ g, pv.ownBlock = some g → g < w.heap.size ∧ v.ownBlock ≠ some g) : OutAt w' base v' (ps ++ [b]) := by
  have hl : xs.length = ps.length := by obtain ⟨_, _, _, h1, _⟩ := ht; exact h1
  refine ⟨xs ++ [pv], by simpa using hT, fun i u b2 hu hb2 => ?_, fun g hg2 => ?_⟩
  · have hq : RowOf encB 1 w u b2 ∧ ∀ g, u.ownBlock = some g → g < w.heap.size ∧ v.ownBlock ≠ some g := by
      rcases Nat.lt_or_ge i xs.length with hi | hi
      · rw [List.getElem?_append_left hi] at hu
        rw [List.getElem?_append_left (by omega)] at hb2
        exact hp i u b2 hu hb2
      · rw [List.getElem?_append_right hi] at hu
        rw [List.getElem?_append_right (by omega)] at hb2
        have hi0 : i - xs.length = 0 := by have := (List.getElem?_eq_some_iff.1 hu).1; simp at this; omega
        rw [hi0] at hu
        rw [← hl, hi0] at hb2
        simp at hu hb2
        subst hu hb2
        exact ⟨hr, hpv⟩
    refine ⟨hq.1.grown hg (fun g hg2 e => (hq.2 g hg2).2 e.symm), fun g hg2 => ⟨Nat.lt_of_lt_of_le (hq.2 g hg2).1 hg.size, fun e => ?_⟩⟩
    rcases hv with h3 | ⟨g', h3, h4⟩
    · exact (hq.2 g hg2).2 (by rw [← h3]; exact e)
    · rw [h3] at e; injection e with e; have := (hq.2 g hg2).1; omega
  · obtain ⟨ao, cap, rfl, h1, h2, h3, h4, h5⟩ := hT
    obtain ⟨g2, off2, rfl, hb2, hlt2, _⟩ := h5 (by omega)
    injection hg2 with hg2
    rw [← hg2]; exact ⟨hlt2, hb2⟩
theorem OutAt.nil (w : World) (base : Nat) : OutAt w base (.slice none 0 0) [] := ⟨[], Tail.nil _ _, by simp, by simp [Value.ownBlock]⟩
theorem take_push {α : Type} {ps : List α} {j : Nat} {b : α} (h : ps[j]? = some b) : ps.take j ++ [b] = ps.take (j + 1) := by rw [List.take_add_one, h]; rfl
section
variable {w : World} {x : Nat} {s : NS} {B : Key → List (List Int)} {Z : Nat → Prop} {N : Nat}
def BagRel (w : World) (ps : List (List Int)) (out i : Value) (wr : World) : Prop := ∃ j : Nat, j ≤ ps.length ∧ i = .int .i64 j ∧ OutAt wr w.heap.size out (ps.take j) ∧ Below w.heap.size w wr
def BagEnd (w : World) (ps : List (List Int)) (e : Ending) (w' : World) : Prop := ∃ v, e = .returned v ∧ OutAt w' w.heap.size v ps ∧ Below w.heap.size w w'
set_option maxHeartbeats 4000000 in
set_option maxRecDepth 100000 in
theorem c20 (h : NetAt w x s B Z N) (f t : Int) (hb : ∀ b ∈ B (f, t), b.length ≤ 1000) : Calls Try.prog 20 #[.pointer (some ⟨x, 0, none⟩), .int .i64 f, .int .i64 t] w (BagEnd w (B (f, t))) := by
  refine gen (S := BagEnd w (B (f, t))) fun R hR => ?_
  have hx := h.box.lt
  have e1 := h.box.cell (j := 0) (u := .map (some s.r)) rfl
  obtain ⟨va, cp, xs, hv, hT, hp, -⟩ := h.look (f, t)
  have hlk : (Instr.lookup 60 (.map (some s.r)) (.agg #[.int .i64 f, .int .i64 t]) false).run Try.prog w = .ok (.slice va (B (f, t)).length cp) w := by rw [look54 h.map f t, hv]
  have hsm := h.small (f, t)
  have HT := Lib.hid hT
  have HP := Lib.hid hp
  have HB := Lib.hid hb
  clear h hv hT hp hb
  generalize B (f, t) = ps at *
  go_enter Try.func20, Try.ntmps20
  go_wp2
  go_loopw [7, 21] (fun out i wr => BagRel w ps out i wr) (fun _ i _ => ps.length - (intOf i).toNat)
  case atStart => exact ⟨0, by omega, rfl, OutAt.nil _ _, Below.refl _ _⟩
  case round =>
    obtain ⟨j, hj, rfl, hout, hbl⟩ := hrel
    rcases Nat.lt_or_ge j ps.length with hlt | hge
    · have hxl : xs.length = ps.length := by obtain ⟨_, _, _, h1, _⟩ := HT.out; exact h1
      obtain ⟨u, hu⟩ : ∃ u, xs[j]? = some u := ⟨xs[j]'(by omega), List.getElem?_eq_getElem _⟩
      obtain ⟨b, hb⟩ : ∃ b, ps[j]? = some b := ⟨ps[j], List.getElem?_eq_getElem _⟩
      obtain ⟨g, off, rfl, _, hgl, hcu⟩ := HT.out.cell hu
      obtain ⟨hru, hou⟩ := HP.out j u b hu hb
      rw [← hbl.cell (p := ⟨g, off + j, none⟩) hgl] at hcu
      have hgl2 : g < wr.heap.size := Nat.lt_of_lt_of_le hgl hbl.size
      have h23 := c23 u b wr (hru.keep hbl) (HB.out b (List.mem_of_getElem? hb))
      have hjl : (j : Int) < (ps.length : Int) := by omega
      obtain ⟨ua, uc, rfl, -⟩ := id hru
      obtain ⟨xo, hTo, hPo, hOo⟩ := id hout
      have hlo : (ps.take j).length = j := by rw [List.length_take]; omega
      obtain ⟨oa, oc, rfl, -⟩ := id hTo
      have HBL := Lib.hid hbl
      have HTO := Lib.hid hTo
      have HPO := Lib.hid hPo
      have HOO := Lib.hid hOo
      have HTK := Lib.hid (take_push hb)
      clear hbl hTo hPo hOo hout hru hou hb hu
      rw [hlo] at *
      go_wp2_with (first
        | (go_at_call 23
           refine h23.mono ?_
           rintro e w2 ⟨pv, rfl, hR1, hpv1, hb1⟩
           obtain ⟨pa, pc, rfl, -⟩ := id hR1
           have HR1 := Lib.hid hR1
           have HPV := Lib.hid hpv1
           have HB1 := Lib.hid hb1
           have hpc : (w2.alloc (.cells #[.slice pa b.length pc] 22)).cell? ⟨w2.heap.size, 0, none⟩ = some (.slice pa b.length pc) := (VarAt.new w2 22 [.slice pa b.length pc]).cell (j := 0) rfl
           clear hR1 hpv1 hb1)
        | (at_builtin; (refine wpList_append_tail _ rfl (.tmp 25) (.tmp 28) 56 rfl w.heap.size 22 (.slice none 0 0) 24 underlying56 info22 rfl (.slice pa b.length pc) rfl _ j xo (by rfl) ((HTO.out.below HB1.out (Nat.le_refl _)).alloc _) w2.heap.size (by rfl) hpc (by unfold maxLen; omega) (by omega) (by have := HBL.out.size; have := HB1.out.size; simp; omega) ?_); intro v3 w3 hT3 hg3 ho3)
        | fail)
      go_tidy
      have hlj : (ps.take j).length = j := by rw [List.length_take]; omega
      have hbw : Below wr.heap.size wr (w2.alloc (.cells #[.slice pa b.length pc] 22)) := HB1.out.alloc HB1.out.size _
      refine ⟨⟨j + 1, by omega, rfl, ?_, ((HBL.out.trans (hbw.mono HBL.out.size)).grown hg3 (by have := HBL.out.size; have := HB1.out.size; simp; omega) (fun k hk => ?_))⟩, by simp [intOf]; omega⟩
      · rw [← HTK.out]
        refine OutAt.push (pv := .slice pa b.length pc) (xs := xo) (v := .slice oa j oc) (by rw [hlj]; exact (HTO.out.below hbw (Nat.le_refl _))) (fun i u b2 hu hb2 => ?_) (by rw [hlj]; exact hT3) hg3 ho3 (HR1.out.keep ((Below.refl _ w2).alloc (Nat.le_refl _) _)) (fun g hg => ⟨by have := (HPV.out g hg).2; simp; omega, fun e => by have := (HOO.out g e).1; have := (HPV.out g hg).1; omega⟩)
        obtain ⟨q1, q2⟩ := HPO.out i u b2 hu hb2
        exact ⟨q1.keep hbw, fun g hg => ⟨Nat.lt_of_lt_of_le (q2 g hg).1 hbw.size, (q2 g hg).2⟩⟩
      · exact (HOO.out k hk).2
    · obtain rfl : j = ps.length := by omega
      have HBL := Lib.hid hbl
      have HO := Lib.hid hout
      clear hbl hout
      go_wp2
      go_tidy
      exact ⟨_, rfl, by have := HO.out; rw [List.take_length] at this; exact this, HBL.out⟩
end
end Go.Proofs.Ytkkambhkfegodaa
