/- The reference: Bag, Send, drop. Conditions: each law's own. -/
import Derived.Test.YtkkambhkfegodaaRef
import Derived.Test.YtkkambhkfegodaaFresh
namespace Go.Proofs.Ytkkambhkfegodaa
open Go.ChangeShapes Go.WideShapes Go.ChangeAt Go.RowKit

theorem info73 : (Try.prog.info? 73).map (fun i => (i.zero, i.size, i.bytes)) = some (some (.agg #[.int .i64 0, .int .i64 0, .slice none 0 0]), 3, 40) := by kernel_rfl
theorem underlying44 : Try.prog.underlying 44 = some (.slice 73) := by kernel_rfl
theorem ownsRow_base {w : World} {b b2 : Nat} {e : TypeId} {size n : Nat} {v : Value} {xs : List Value} (h : w.ownsRow b e size v n xs) (hb : b2 ≤ b) : w.ownsRow b2 e size v n xs := by
  obtain ⟨h1, h2 | ⟨g, cap, cur, hv, hg, hr⟩⟩ := h
  · exact ⟨h1, .inl h2⟩
  · exact ⟨h1, .inr ⟨g, cap, cur, hv, Nat.le_trans hb hg, hr⟩⟩
theorem ownsRow_below {w w' : World} {b : Nat} {e : TypeId} {size n : Nat} {v : Value} {xs : List Value} (h : w.ownsRow b e size v n xs) (hb : Below w.heap.size w w') : w'.ownsRow b e size v n xs := by
  obtain ⟨h1, h2 | ⟨g, cap, cur, hv, hg, hh, hr⟩⟩ := h
  · exact ⟨h1, .inl h2⟩
  · exact ⟨h1, .inr ⟨g, cap, cur, hv, hg, by rw [hb.block g (Array.getElem?_eq_some_iff.1 hh).1]; exact hh, hr⟩⟩
section
variable {w0 w : World} {y : Nat} {lv : Value} {L : List Pkt}
theorem mem_onLink {k : Key} {p : Pkt} (h : p ∈ onLink k L) : p ∈ L ∧ p.1 = k := by unfold onLink at h; rw [List.mem_filter] at h; simpa using h
def vals (L : List Pkt) : List Value := L.map (·.2.1)
def RBagRel (L : List Pkt) (k : Key) (w : World) (out i : Value) (wr : World) : Prop :=
  ∃ j : Nat, j ≤ L.length ∧ i = .int .i64 j ∧ Tail wr w.heap.size out (cnt k (L.take j)) (vals (onLink k (L.take j))) ∧ (∀ g, out.ownBlock = some g → w.heap.size ≤ g) ∧ Below w.heap.size w wr
def RBagEnd (L : List Pkt) (k : Key) (w : World) (e : Ending) (w' : World) : Prop := ∃ v, e = .returned v ∧ Tail w' w.heap.size v (cnt k L) (vals (onLink k L)) ∧ Below w.heap.size w w'
set_option maxHeartbeats 4000000 in
theorem c21 (h : RefAt w0 w y lv L) (hl : L.length ≤ 100000) (f t : Int) : Calls Try.prog 21 #[.pointer (some ⟨y, 0, none⟩), .int .i64 f, .int .i64 t] w (RBagEnd L (f, t) w) := by
  refine gen (S := RBagEnd L (f, t) w) fun R hR => ?_
  have hrow := h.rowOf
  have hy := h.box.lt
  obtain ⟨av, cap, rfl, -⟩ := id hrow
  have hone : ∀ p ∈ L, p.2.1.oneCell' = true := fun p hp => (h.pk p hp).1.one
  have HO := Lib.hid hone
  have H := Lib.hid h
  have HR := Lib.hid hrow
  clear h hrow hone
  go_enter Try.func21, Try.ntmps21
  go_wp2
  go_loopw [7, 8] (fun out i wr => RBagRel L (f, t) w out i wr) (fun _ i _ => L.length - (intOf i).toNat)
  case atStart => exact ⟨0, by omega, rfl, by simp [cnt, onLink, vals]; exact Tail.nil _ _, by simp [Value.ownBlock], Below.refl _ _⟩
  case round =>
    obtain ⟨j, hj, rfl, hT, hown, hbl⟩ := hrel
    have hc : wr.cell? ⟨y, 0, none⟩ = some (.slice av L.length cap) := by rw [hbl.cell (p := ⟨y, 0, none⟩) hy]; exact H.out.box.cell (j := 0) rfl
    have hyr : y < wr.heap.size := Nat.lt_of_lt_of_le hy hbl.size
    rcases Nat.lt_or_ge j L.length with hlt | hge
    · obtain ⟨b, o, ⟨⟨p1, p2⟩, pv, pb⟩, rfl, hbl0, hp, hc0, hc1, hc2⟩ := HR.out.pkt hlt
      have hpo := HO.out _ (List.mem_of_getElem? hp)
      simp only at hc0 hc1 hc2 hpo
      rw [← hbl.cell (p := ⟨b, o + j * 3, none⟩) hbl0] at hc0
      rw [← hbl.cell (p := ⟨b, o + j * 3 + 1, none⟩) hbl0] at hc1
      rw [← hbl.cell (p := ⟨b, o + j * 3 + 2, none⟩) hbl0] at hc2
      have hbr : b < wr.heap.size := Nat.lt_of_lt_of_le hbl0 hbl.size
      have hjl : (j : Int) < (L.length : Int) := by omega
      have htk : L.take (j + 1) = L.take j ++ [((p1, p2), pv, pb)] := (take_push hp).symm
      have hcl := cnt_le (f, t) (L.take j)
      rw [List.length_take] at hcl
      obtain ⟨pva, pvn, pvc, rfl⟩ : ∃ a n c, pv = .slice a n c := by
        obtain ⟨a, c, e, _⟩ := (H.out.pk _ (List.mem_of_getElem? hp)).1
        exact ⟨a, _, c, e⟩
      have HTK := Lib.hid htk
      have HT := Lib.hid hT
      have HW := Lib.hid hown
      have HBL := Lib.hid hbl
      obtain ⟨oa, oc, rfl, -⟩ := id hT
      clear htk hp hT hown hbl
      by_cases h1 : p1 = f
      · by_cases h2 : p2 = t
        · subst h1 h2
          have hpc : (wr.alloc (.cells #[.slice pva pvn pvc] 22)).cell? ⟨wr.heap.size, 0, none⟩ = some (.slice pva pvn pvc) := (VarAt.new wr 22 [.slice pva pvn pvc]).cell (j := 0) rfl
          go_wp2_with (first
            | (at_builtin; refine wpList_append_tail _ rfl (.tmp 40) (.tmp 49) 56 rfl w.heap.size 22 (.slice none 0 0) 24 underlying56 info22 rfl (.slice pva pvn pvc) rfl _ (cnt (p1, p2) (L.take j)) (vals (onLink (p1, p2) (L.take j))) (by rfl) (HT.out.alloc _) wr.heap.size (by rfl) hpc (by unfold maxLen; omega) (by omega) (by have := HBL.out.size; simp; omega) ?_; intro v3 w3 hT3 hg3 ho3)
            | fail)
          go_tidy
          refine ⟨⟨j + 1, by omega, rfl, ?_, fun g hg => ?_, (HBL.out.alloc HBL.out.size _).grown hg3 (by have := HBL.out.size; simp; omega) (fun k hk => HW.out k hk)⟩, by simp [intOf]; omega⟩
          · rw [HTK.out, cnt_push, if_pos rfl, onLink_push, if_pos rfl]
            unfold vals at *
            rw [List.map_append]
            exact hT3
          · rcases ho3 with h3 | ⟨g', h3, h4⟩
            · exact HW.out g (by rw [← h3]; exact hg)
            · rw [h3] at hg; injection hg with hg; have := HBL.out.size; simp at h4; omega
        · subst h1
          have h2' : ¬ (p2 = t) := h2
          go_wp2
          go_tidy
          refine ⟨⟨j + 1, by omega, rfl, ?_, HW.out, HBL.out⟩, by simp [intOf]; omega⟩
          rw [HTK.out, cnt_push, if_neg (fun e => h2 (by injection e)), onLink_push, if_neg (fun e => h2 (by injection e))]
          exact HT.out
      · have h1' : ¬ (p1 = f) := h1
        go_wp2
        go_tidy
        refine ⟨⟨j + 1, by omega, rfl, ?_, HW.out, HBL.out⟩, by simp [intOf]; omega⟩
        rw [HTK.out, cnt_push, if_neg (fun e => h1 (by injection e)), onLink_push, if_neg (fun e => h1 (by injection e))]
        exact HT.out
    · obtain rfl : j = L.length := by omega
      rw [List.take_length] at hT
      have HT := Lib.hid hT
      have HBL := Lib.hid hbl
      clear hT hbl hown
      go_wp2
      go_tidy
      exact ⟨_, rfl, HT.out, HBL.out⟩
end
end Go.Proofs.Ytkkambhkfegodaa
