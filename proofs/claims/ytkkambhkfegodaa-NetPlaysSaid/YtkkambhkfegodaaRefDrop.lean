/- The reference: drop, Clear, Take, Double. Conditions: each law's own. -/
import Derived.Test.YtkkambhkfegodaaRefSend
namespace Go.Proofs.Ytkkambhkfegodaa
open Go.ChangeShapes Go.WideShapes Go.ChangeAt Go.RowKit

section
variable {w0 w : World} {y : Nat} {lv : Value} {L : List Pkt}
def kp (f t : Int) (one : Bool) (p : Pkt) : Bool := decide (p.1.2 ≠ t) || (one && decide (p.1.1 ≠ f))
def kept (f t : Int) (one : Bool) (L : List Pkt) : List Pkt := L.filter (kp f t one)
theorem kept_push (f t : Int) (one : Bool) (L : List Pkt) (p : Pkt) : kept f t one (L ++ [p]) = if kp f t one p then kept f t one L ++ [p] else kept f t one L := by
  unfold kept
  rw [List.filter_append]
  by_cases h : kp f t one p = true
  · simp [h]
  · simp [h]
theorem kept_le (f t : Int) (one : Bool) (L : List Pkt) : (kept f t one L).length ≤ L.length := List.length_filter_le _ _
def DropRel (L : List Pkt) (f t : Int) (one : Bool) (w : World) (out i : Value) (wr : World) : Prop :=
  ∃ j : Nat, j ≤ L.length ∧ i = .int .i64 j ∧ wr.ownsRow w.heap.size 73 3 out (kept f t one (L.take j)).length ((kept f t one (L.take j)).flatMap encK) ∧ Below w.heap.size w wr
def DropPost (w0 : World) (y : Nat) (lv : Value) (L L' : List Pkt) (w : World) (e : Ending) (w' : World) : Prop :=
  e = .returned (.int .i64 ((L.length : Int) - (L'.length : Int))) ∧ ∃ lv', RefAt w0 w' y lv' L' ∧ RefStep w y lv w' lv'
set_option maxHeartbeats 4000000 in
theorem c44 (h : RefAt w0 w y lv L) (hl : L.length ≤ 10000) (f t : Int) (one : Bool) : Calls Try.prog 44 #[.pointer (some ⟨y, 0, none⟩), .int .i64 f, .int .i64 t, .bool one] w (DropPost w0 y lv L (kept f t one L) w) := by
  refine gen (S := DropPost w0 y lv L (kept f t one L) w) fun R hR => ?_
  have hrow := h.rowOf
  have hy := h.box.lt
  obtain ⟨av, cap, rfl, -⟩ := id hrow
  have H := Lib.hid h
  have HR := Lib.hid hrow
  clear h hrow
  go_enter Try.func44, Try.ntmps44
  go_wp2
  go_loopw [9, 10] (fun out i wr => DropRel L f t one w out i wr) (fun _ i _ => L.length - (intOf i).toNat)
  case atStart => exact ⟨0, by omega, rfl, World.ownsRow_nil _ _ _ _, Below.refl _ _⟩
  case round =>
    obtain ⟨j, hj, rfl, hT, hbl⟩ := hrel
    have hc : wr.cell? ⟨y, 0, none⟩ = some (.slice av L.length cap) := by rw [hbl.cell (p := ⟨y, 0, none⟩) hy]; exact H.out.box.cell (j := 0) rfl
    have hyr : y < wr.heap.size := Nat.lt_of_lt_of_le hy hbl.size
    rcases Nat.lt_or_ge j L.length with hlt | hge
    · obtain ⟨b, o, ⟨⟨p1, p2⟩, pv, pb⟩, rfl, hbl0, hp, hc0, hc1, hc2⟩ := HR.out.pkt hlt
      simp only at hc0 hc1 hc2
      rw [← hbl.cell (p := ⟨b, o + j * 3, none⟩) hbl0] at hc0
      rw [← hbl.cell (p := ⟨b, o + j * 3 + 1, none⟩) hbl0] at hc1
      rw [← hbl.cell (p := ⟨b, o + j * 3 + 2, none⟩) hbl0] at hc2
      have hbr : b < wr.heap.size := Nat.lt_of_lt_of_le hbl0 hbl.size
      have hjl : (j : Int) < (L.length : Int) := by omega
      have htk : L.take (j + 1) = L.take j ++ [((p1, p2), pv, pb)] := (take_push hp).symm
      have hcl := kept_le f t one (L.take j)
      rw [List.length_take] at hcl
      obtain ⟨pva, pvn, pvc, rfl⟩ : ∃ a n c, pv = .slice a n c := by
        obtain ⟨a, c, e, _⟩ := (H.out.pk _ (List.mem_of_getElem? hp)).1
        exact ⟨a, _, c, e⟩
      have HTK := Lib.hid htk
      have HT := Lib.hid hT
      have HBL := Lib.hid hbl
      obtain ⟨oa, oc, rfl⟩ := owns_slice hT
      have hK : kp f t one ((p1, p2), .slice pva pvn pvc, pb) = (decide (p2 ≠ t) || (one && decide (p1 ≠ f))) := rfl
      generalize hKP : kept f t one (L.take j) = KP at *
      have HKP := Lib.hid hKP
      have HK := Lib.hid hK
      clear htk hp hT hbl hK hKP
      have fin1 : (decide (p2 ≠ t) || (one && decide (p1 ≠ f))) = true → ∀ (v3 : Value) (w3 : World), w3.ownsRow w.heap.size 73 3 v3 (KP.length + 1) (KP.flatMap encK ++ [.int .i64 p1, .int .i64 p2, .slice pva pvn pvc]) →
          (wr.alloc (.cells #[.int .i64 p1, .int .i64 p2, .slice pva pvn pvc] 73)).grownBy w3 (Value.slice oa KP.length oc).ownBlock → DropRel L f t one w v3 (.int .i64 ((j : Int) + 1)) w3 := fun hk v3 w3 hT3 hg3 => by
        refine ⟨j + 1, by omega, rfl, ?_, (HBL.out.alloc HBL.out.size _).grown hg3 (by have := HBL.out.size; simp; omega) (fun k hk => (HT.out.lt k hk).1)⟩
        rw [HTK.out, kept_push, HKP.out, HK.out, if_pos hk]
        simp only [List.length_append, List.length_singleton, List.flatMap_append, List.flatMap_cons, List.flatMap_nil, List.append_nil]
        exact hT3
      have fin2 : (decide (p2 ≠ t) || (one && decide (p1 ≠ f))) = false → DropRel L f t one w (.slice oa KP.length oc) (.int .i64 ((j : Int) + 1)) wr := fun hk => by
        refine ⟨j + 1, by omega, rfl, ?_, HBL.out⟩
        rw [HTK.out, kept_push, HKP.out, HK.out, if_neg (by rw [hk]; decide)]
        exact HT.out
      have HF1 := Lib.hid fin1
      have HF2 := Lib.hid fin2
      clear fin1 fin2
      by_cases h2 : p2 = t
      · subst h2
        cases one with
        | false =>
          go_wp2
          go_tidy
          exact ⟨HF2.out (by simp), by simp [intOf]; omega⟩
        | true =>
          by_cases h1 : p1 = f
          · skip
            go_wp2
            go_tidy
            exact ⟨HF2.out (by simp [h1]), by simp [intOf]; omega⟩
          · have h1' : ¬ (p1 = f) := h1
            go_wp2_with (first
              | (at_builtin; refine wpList_append_fresh (wr.alloc (.cells #[.int .i64 p1, .int .i64 p2, .slice pva pvn pvc] 73)) rfl (.tmp 46) (.tmp 54) 44 rfl w.heap.size 73 (.agg #[.int .i64 0, .int .i64 0, .slice none 0 0]) 3 40 underlying44 info73 rfl (by decide) (.slice oa KP.length oc) KP.length (KP.flatMap encK) (by rfl) (HT.out.alloc _) ⟨wr.heap.size, 0, none⟩ 1 1 [.int .i64 p1, .int .i64 p2, .slice pva pvn pvc] (by rfl) rfl (cell_new wr [.int .i64 p1, .int .i64 p2, .slice pva pvn pvc] 73) (by simp [Value.oneCell']) (by unfold maxLen; omega) (by omega) (by have := HBL.out.size; simp; omega) ?_; intro v3 w3 hT3 hg3 ho3)
              | fail)
            go_tidy
            exact ⟨HF1.out (by simp [h1]) v3 w3 hT3 hg3, by simp [intOf]; omega⟩
      · have h2' : ¬ (p2 = t) := h2
        go_wp2_with (first
          | (at_builtin; refine wpList_append_fresh (wr.alloc (.cells #[.int .i64 p1, .int .i64 p2, .slice pva pvn pvc] 73)) rfl (.tmp 46) (.tmp 54) 44 rfl w.heap.size 73 (.agg #[.int .i64 0, .int .i64 0, .slice none 0 0]) 3 40 underlying44 info73 rfl (by decide) (.slice oa KP.length oc) KP.length (KP.flatMap encK) (by rfl) (HT.out.alloc _) ⟨wr.heap.size, 0, none⟩ 1 1 [.int .i64 p1, .int .i64 p2, .slice pva pvn pvc] (by rfl) rfl (cell_new wr [.int .i64 p1, .int .i64 p2, .slice pva pvn pvc] 73) (by simp [Value.oneCell']) (by unfold maxLen; omega) (by omega) (by have := HBL.out.size; simp; omega) ?_; intro v3 w3 hT3 hg3 ho3)
          | fail)
        go_tidy
        exact ⟨HF1.out (by simp [h2]) v3 w3 hT3 hg3, by simp [intOf]; omega⟩
    · obtain rfl : j = L.length := by omega
      rw [List.take_length] at hT
      obtain ⟨oa, oc, rfl⟩ := owns_slice hT
      have HT := Lib.hid hT
      have HBL := Lib.hid hbl
      have hf := (H.out.below hbl).box.free 0
      have hkl := kept_le f t one L
      have hw : IntKind.i64.wrap ((L.length : Int) - ((kept f t one L).length : Int)) = (L.length : Int) - ((kept f t one L).length : Int) := by simp [IntKind.wrap, IntKind.signed, IntKind.bits]; omega
      clear hT hbl
      go_wp2
      go_tidy
      have hfin := H.out.put (L' := kept f t one L) (H.out.below HBL.out).box (ownsRow_base HT.out H.out.old.size) (fun p hp => H.out.pk p (List.mem_filter.1 hp).1) (H.out.below HBL.out).old (.of_below HBL.out) (fun g hg => .inr (HT.out.lt g hg).1)
      exact ⟨rfl, _, hfin.1, hfin.2⟩
end
end Go.Proofs.Ytkkambhkfegodaa
