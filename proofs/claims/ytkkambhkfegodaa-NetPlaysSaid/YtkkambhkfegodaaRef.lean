/- The reference of the network: its state; where a packet lies. Conditions: each law's own. -/
import Derived.Test.YtkkambhkfegodaaClear
namespace Go.Proofs.Ytkkambhkfegodaa
open Go.ChangeShapes Go.WideShapes Go.ChangeAt Go.RowKit

abbrev Pkt := Key × Value × List Int
def encK (p : Pkt) : List Value := [.int .i64 p.1.1, .int .i64 p.1.2, p.2.1]
/-- The reference at y has the packets L; its row is of the law's own memory, what the packets hold lies in w0. -/
structure RefAt (w0 w : World) (y : Nat) (lv : Value) (L : List Pkt) : Prop where
  box : VarAt w y 46 [lv]
  row : w.ownsRow w0.heap.size 73 3 lv L.length (L.flatMap encK)
  pk : ∀ p ∈ L, RowOf encB 1 w0 p.2.1 p.2.2 ∧ p.2.2.length ≤ 1000
  old : Below w0.heap.size w0 w
  yb : w0.heap.size ≤ y
def RefOwn (y : Nat) (lv : Value) (j : Nat) : Prop := j = y ∨ lv.ownBlock = some j
structure RefStep (w : World) (y : Nat) (lv : Value) (w' : World) (lv' : Value) : Prop where
  own : ∀ g, lv'.ownBlock = some g → lv.ownBlock = some g ∨ w.heap.size ≤ g
  frame : Frame (fun j => ¬ RefOwn y lv j) w w'
theorem RefStep.refl (w : World) (y : Nat) (lv : Value) : RefStep w y lv w lv := ⟨fun _ h => .inl h, .refl _ _⟩
theorem RefStep.of_below {w w' : World} (h : Below w.heap.size w w') (y : Nat) (lv : Value) : RefStep w y lv w' lv := ⟨fun _ h => .inl h, .of_below h⟩
theorem RefStep.trans {w1 w2 w3 : World} {y : Nat} {v1 v2 v3 : Value} (h : RefStep w1 y v1 w2 v2) (h2 : RefStep w2 y v2 w3 v3) (hy : y < w1.heap.size) : RefStep w1 y v1 w3 v3 where
  own := fun g hg => (h2.own g hg).elim (fun h3 => h.own g h3) (fun h3 => .inr (Nat.le_trans h.frame.size h3))
  frame := ⟨h2.frame.os.trans h.frame.os, h2.frame.tape.trans h.frame.tape, h2.frame.output.trans h.frame.output, Nat.le_trans h.frame.size h2.frame.size, fun j hj hA =>
    (h2.frame.block j (Nat.lt_of_lt_of_le hj h.frame.size) (fun h3 => h3.elim (fun h4 => hA (.inl h4)) (fun h4 => (h.own j h4).elim (fun h5 => hA (.inr h5)) (fun h5 => by omega)))).trans (h.frame.block j hj hA)⟩
section
variable {w0 w : World} {y : Nat} {lv : Value} {L : List Pkt}
theorem RefAt.rowOf (h : RefAt w0 w y lv L) : RowOf encK 3 w lv L := RowOf.of_owns (fun _ => rfl) h.row rfl
theorem RefAt.lt (h : RefAt w0 w y lv L) : ∀ j, RefOwn y lv j → w0.heap.size ≤ j ∧ j < w.heap.size := by
  rintro j (rfl | hj)
  · exact ⟨h.yb, h.box.lt⟩
  · exact ⟨(h.row.lt j hj).1, (h.row.lt j hj).2⟩
theorem RefAt.ne (h : RefAt w0 w y lv L) : lv.ownBlock ≠ some y := by
  intro e
  obtain ⟨_, ⟨rfl, _⟩ | ⟨g, cap, cur, rfl, _, hg, _⟩⟩ := h.row
  · cases e
  · injection e with e
    have e2 : g = y := e
    rw [e2] at hg
    have := h.box
    unfold VarAt at this
    rw [hg] at this
    injection this with this
    injection this with _ h2
    exact absurd h2 (by decide)
/-- What writes no block of the reference keeps it. -/
theorem RefAt.keep {w' : World} {A : Nat → Prop} (h : RefAt w0 w y lv L) (hf : Frame A w w') (hA : ∀ j, RefOwn y lv j → A j) (ho : Below w0.heap.size w0 w') : RefAt w0 w' y lv L where
  box := by unfold VarAt; rw [hf.block y h.box.lt (hA y (.inl rfl))]; exact h.box
  row := by
    obtain ⟨h1, ⟨rfl, h2⟩ | ⟨g, cap, cur, rfl, hb, hg, hr⟩⟩ := h.row
    · exact ⟨h1, .inl ⟨rfl, h2⟩⟩
    · exact ⟨h1, .inr ⟨g, cap, cur, rfl, hb, by rw [hf.block g ((Array.getElem?_eq_some_iff.1 hg).1) (hA g (.inr rfl))]; exact hg, hr⟩⟩
  pk := h.pk
  old := ho
  yb := h.yb
theorem RefAt.below {w' : World} (h : RefAt w0 w y lv L) (hb : Below w.heap.size w w') : RefAt w0 w' y lv L :=
  h.keep (A := fun _ => True) (.of_below hb) (fun _ _ => trivial) (h.old.trans (hb.mono h.old.size))
theorem RowOf.pkt {a : Option Addr} {n cap : Nat} (h : RowOf encK 3 w (.slice a n cap) L) {j : Nat} (hj : j < L.length) :
    ∃ b o p, a = some ⟨b, o, none⟩ ∧ b < w.heap.size ∧ L[j]? = some p ∧ w.cell? ⟨b, o + j * 3, none⟩ = some (.int .i64 p.1.1) ∧ w.cell? ⟨b, o + j * 3 + 1, none⟩ = some (.int .i64 p.1.2) ∧ w.cell? ⟨b, o + j * 3 + 2, none⟩ = some p.2.1 := by
  obtain ⟨a', cap', hv, h1, h2, h3⟩ := h
  cases hv
  obtain ⟨b, o, rfl, hlt, hc⟩ := h3 (by omega)
  have hp : L[j]? = some L[j] := List.getElem?_eq_getElem hj
  exact ⟨b, o, L[j], rfl, hlt, hp, hc j 0 _ _ hp rfl, hc j 1 _ _ hp rfl, hc j 2 _ _ hp rfl⟩
/-- A link's packets. -/
def onLink (k : Key) (L : List Pkt) : List Pkt := L.filter fun p => decide (p.1 = k)
def cnt (k : Key) (L : List Pkt) : Nat := (onLink k L).length
theorem onLink_push (k : Key) (L : List Pkt) (p : Pkt) : onLink k (L ++ [p]) = if p.1 = k then onLink k L ++ [p] else onLink k L := by
  unfold onLink
  rw [List.filter_append]
  by_cases h : p.1 = k
  · simp [h]
  · simp only [h, decide_false, List.filter_cons, List.filter_nil, if_false]; simp
theorem cnt_push (k : Key) (L : List Pkt) (p : Pkt) : cnt k (L ++ [p]) = if p.1 = k then cnt k L + 1 else cnt k L := by
  unfold cnt
  rw [onLink_push]
  split <;> simp
theorem cnt_le (k : Key) (L : List Pkt) : cnt k L ≤ L.length := List.length_filter_le _ _
def PlaceOf (L : List Pkt) (k : Key) (a r : Int) : Prop :=
  (∃ (i : Nat) (p : Pkt), r = (i : Int) ∧ L[i]? = some p ∧ p.1 = k ∧ (cnt k (L.take i) : Int) = a) ∨ (r = -1 ∧ ¬ (0 ≤ a ∧ a < (cnt k L : Int)))
def PlaceRel (L : List Pkt) (k : Key) (a : Int) (w : World) (av i : Value) (wr : World) : Prop :=
  ∃ j : Nat, j ≤ L.length ∧ i = .int .i64 j ∧ av = .int .i64 (wrap64 (a - (cnt k (L.take j) : Int))) ∧ ¬ (0 ≤ a ∧ a < (cnt k (L.take j) : Int)) ∧ wr = w
def PlaceEnd (L : List Pkt) (k : Key) (a : Int) (w : World) (e : Ending) (w' : World) : Prop := ∃ r, e = .returned (.int .i64 r) ∧ PlaceOf L k a r ∧ w' = w
set_option maxHeartbeats 4000000 in
theorem c43 (h : RefAt w0 w y lv L) (hl : L.length ≤ 100000) (f t a : Int) (ha : (Lit.int .i64 a).wf = true) : Calls Try.prog 43 #[.pointer (some ⟨y, 0, none⟩), .int .i64 f, .int .i64 t, .int .i64 a] w (PlaceEnd L (f, t) a w) := by
  refine gen (S := PlaceEnd L (f, t) a w) fun R hR => ?_
  have hrow := h.rowOf
  have hy := h.box.lt
  have hc := h.box.cell (j := 0) (u := lv) rfl
  obtain ⟨av, cap, rfl, -⟩ := id hrow
  simp [Lit.wf, IntKind.min, IntKind.max, IntKind.signed, IntKind.bits] at ha
  have HR := Lib.hid hrow
  clear h hrow
  go_enter Try.func43, Try.ntmps43
  go_wp2
  go_loopw [3, 9] (fun av i wr => PlaceRel L (f, t) a w av i wr) (fun _ i _ => L.length - (intOf i).toNat)
  case atStart =>
    refine ⟨0, by omega, rfl, ?_, by simp [cnt, onLink], rfl⟩
    have : wrap64 (a - (cnt (f, t) (L.take 0) : Int)) = a := by simp [cnt, onLink, wrap64]; omega
    rw [this]
  case round =>
    obtain ⟨j, hj, rfl, rfl, hno, rfl⟩ := hrel
    rcases Nat.lt_or_ge j L.length with hlt | hge
    · obtain ⟨b, o, ⟨⟨p1, p2⟩, pv, pb⟩, rfl, hbl, hp, hc0, hc1, hc2⟩ := HR.out.pkt hlt
      have hjl : (j : Int) < (L.length : Int) := by omega
      have htk : L.take (j + 1) = L.take j ++ [((p1, p2), pv, pb)] := (take_push hp).symm
      have hcl := cnt_le (f, t) (L.take j)
      rw [List.length_take] at hcl
      have HP := Lib.hid hp
      have HTK := Lib.hid htk
      generalize hC : cnt (f, t) (L.take j) = C at *
      have HC := Lib.hid hC
      clear hp htk hC
      by_cases h1 : p1 = f
      · by_cases h2 : p2 = t
        · subst h1 h2
          by_cases h3 : a = (C : Int)
          · have hA : wrap64 (a - (C : Int)) = 0 := by rw [h3]; simp [wrap64]
            rw [hA]
            go_wp2
            go_tidy
            exact ⟨_, rfl, .inl ⟨j, _, rfl, HP.out, rfl, by have := HC.out; omega⟩, rfl⟩
          · obtain ⟨A, hA⟩ : ∃ A, A = wrap64 (a - (C : Int)) := ⟨_, rfl⟩
            rw [← hA]
            unfold wrap64 at hA
            have hA0 : ¬ (A = 0) := by omega
            have hA1 : wrap64 (A - 1) = wrap64 (a - ((C + 1 : Nat) : Int)) := by unfold wrap64; omega
            have HA := Lib.hid hA
            have HA1 := Lib.hid hA1
            clear hA hA1
            go_wp2
            go_tidy
            refine ⟨⟨j + 1, by omega, rfl, ?_, ?_, rfl⟩, by simp [intOf]; omega⟩
            · rw [HTK.out, cnt_push, if_pos rfl, HC.out]
              rw [HA1.out]
            · rw [HTK.out, cnt_push, if_pos rfl, HC.out]; omega
        · subst h1
          have h2' : ¬ (p2 = t) := h2
          go_wp2
          go_tidy
          refine ⟨⟨j + 1, by omega, rfl, ?_, ?_, rfl⟩, by simp [intOf]; omega⟩
          · rw [HTK.out, cnt_push, if_neg (fun e => h2 (by injection e)), HC.out]
          · rw [HTK.out, cnt_push, if_neg (fun e => h2 (by injection e)), HC.out]; exact hno
      · have h1' : ¬ (p1 = f) := h1
        go_wp2
        go_tidy
        refine ⟨⟨j + 1, by omega, rfl, ?_, ?_, rfl⟩, by simp [intOf]; omega⟩
        · rw [HTK.out, cnt_push, if_neg (fun e => h1 (by injection e)), HC.out]
        · rw [HTK.out, cnt_push, if_neg (fun e => h1 (by injection e)), HC.out]; exact hno
    · obtain rfl : j = L.length := by omega
      rw [List.take_length] at hno
      have HNO := Lib.hid hno
      clear hno
      go_wp2
      go_tidy
      exact ⟨_, rfl, .inr ⟨rfl, HNO.out⟩, rfl⟩
end
end Go.Proofs.Ytkkambhkfegodaa
