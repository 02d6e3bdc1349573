/- The reference: Clear, Take, Double. Conditions: each law's own. -/
import Derived.Test.YtkkambhkfegodaaRefDrop
namespace Go.Proofs.Ytkkambhkfegodaa
open Go.ChangeShapes Go.WideShapes Go.ChangeAt Go.RowKit

section
variable {w0 w : World} {y : Nat} {lv : Value} {L : List Pkt}
theorem c36 (h : RefAt w0 w y lv L) (hl : L.length ≤ 10000) (t : Int) : Calls Try.prog 36 #[.pointer (some ⟨y, 0, none⟩), .int .i64 t] w (DropPost w0 y lv L (kept 0 t false L) w) := by
  refine gen (S := DropPost w0 y lv L (kept 0 t false L) w) fun R hR => ?_
  have h44 := c44 h hl 0 t false
  go_enter Try.func36, Try.ntmps36
  go_wp2_with (first | (go_at_call 44; refine h44.mono ?_; rintro e w2 ⟨rfl, lv', h1, h2⟩) | fail)
  go_tidy
  exact ⟨rfl, lv', h1, h2⟩
theorem c32none (h : RefAt w0 w y lv L) (hl : L.length ≤ 100000) (f t a : Int) (ha : (Lit.int .i64 a).wf = true) (hn : ¬ (0 ≤ a ∧ a < (cnt (f, t) L : Int))) :
    Calls Try.prog 32 #[.pointer (some ⟨y, 0, none⟩), .int .i64 f, .int .i64 t, .int .i64 a] w fun e w' => e = .returned (.tuple #[.slice none 0 0, .bool false]) ∧ w' = w := by
  refine gen fun R hR => ?_
  have h43 : Calls Try.prog 43 #[.pointer (some ⟨y, 0, none⟩), .int .i64 f, .int .i64 t, .int .i64 a] w fun e w' => e = .returned (.int .i64 (-1)) ∧ w' = w := by
    refine (c43 h hl f t a ha).mono ?_
    rintro e w' ⟨r, rfl, ⟨i, p, rfl, hi, hk, hc⟩ | ⟨rfl, _⟩, rfl⟩
    · refine absurd ?_ hn
      have hlt : i < L.length := (List.getElem?_eq_some_iff.1 hi).1
      have h1 : cnt (f, t) (L.take (i + 1)) ≤ cnt (f, t) L := by
        have : (L.take (i + 1)).Sublist L := List.take_sublist _ _
        exact (this.filter _).length_le
      rw [← take_push hi, cnt_push, if_pos hk] at h1
      omega
    · exact ⟨rfl, rfl⟩
  clear h ha hn
  go_enter Try.func32, Try.ntmps32
  go_wp2_with (first | (go_at_call 43; refine h43.mono ?_; rintro e w' ⟨rfl, rfl⟩) | fail)
theorem cnt_take_le (k : Key) (L : List Pkt) (i : Nat) : cnt k (L.take i) ≤ cnt k L := ((List.take_sublist i L).filter _).length_le
def RTakePost (w0 : World) (y : Nat) (lv : Value) (L : List Pkt) (k : Key) (a : Int) (w : World) (e : Ending) (w' : World) : Prop :=
  ∃ (i : Nat) (p : Pkt) (lv' : Value), L[i]? = some p ∧ p.1 = k ∧ (cnt k (L.take i) : Int) = a ∧ e = .returned (.tuple #[p.2.1, .bool true]) ∧ RefAt w0 w' y lv' (L.eraseIdx i) ∧ RefStep w y lv w' lv'
theorem flat_take {w : World} {g cap : Nat} (hrow : w.ownsRow w0.heap.size 73 3 (.slice (some ⟨g, 0, none⟩) L.length cap) L.length (L.flatMap encK)) (i : Nat) : ∀ j u, ((L.take i).flatMap encK)[j]? = some u → w.cell? ((⟨g, 0, none⟩ : Addr).add j) = some u := by
  intro j u hj
  refine hrow.cells rfl j u ?_
  conv => lhs; rw [← List.take_append_drop i L]
  rw [List.flatMap_append, List.getElem?_append_left (List.getElem?_eq_some_iff.1 hj).1]
  exact hj
theorem flatK_len (L : List Pkt) : (L.flatMap encK).length = L.length * 3 := by
  induction L with
  | nil => rfl
  | cons p L ih => simp only [List.flatMap_cons, List.length_append, List.length_cons, ih]; simp only [encK, List.length_cons, List.length_nil]; omega
theorem flat_drop {w : World} {g cap : Nat} (hrow : w.ownsRow w0.heap.size 73 3 (.slice (some ⟨g, 0, none⟩) L.length cap) L.length (L.flatMap encK)) (i : Nat) (hi : i ≤ L.length) : ∀ j u, ((L.drop i).flatMap encK)[j]? = some u → w.cell? ((⟨g, i * 3, none⟩ : Addr).add j) = some u := by
  intro j u hj
  have := hrow.cells rfl (i * 3 + j) u (by
    conv => lhs; rw [← List.take_append_drop i L]
    rw [List.flatMap_append, List.getElem?_append_right (by rw [flatK_len, List.length_take]; have : min i L.length = i := by omega
                                                            rw [this]; omega)]
    rw [flatK_len, List.length_take, show min i L.length = i by omega, show i * 3 + j - i * 3 = j by omega]
    exact hj)
  rw [Go.WideShapes.add_plain] at this ⊢
  rw [show i * 3 + j = 0 + (i * 3 + j) by omega]
  exact this
theorem encK_one (h : ∀ p ∈ L, p.2.1.oneCell' = true) : ∀ u ∈ L.flatMap encK, u.oneCell' = true := by
  intro u hu
  obtain ⟨p, hp, hup⟩ := List.mem_flatMap.1 hu
  simp only [encK, List.mem_cons, List.not_mem_nil, or_false] at hup
  rcases hup with rfl | rfl | rfl
  · rfl
  · rfl
  · exact h p hp
set_option maxHeartbeats 4000000 in
theorem c32 (h : RefAt w0 w y lv L) (hl : L.length ≤ 10000) (f t a : Int) (ha : (Lit.int .i64 a).wf = true) (hn : 0 ≤ a ∧ a < (cnt (f, t) L : Int)) :
    Calls Try.prog 32 #[.pointer (some ⟨y, 0, none⟩), .int .i64 f, .int .i64 t, .int .i64 a] w (RTakePost w0 y lv L (f, t) a w) := by
  refine gen (S := RTakePost w0 y lv L (f, t) a w) fun R hR => ?_
  have h43 := c43 h (by omega) f t a ha
  have hone : ∀ p ∈ L, p.2.1.oneCell' = true := fun p hp => (h.pk p hp).1.one
  have hLp : 0 < L.length := by
    rcases Nat.eq_zero_or_pos L.length with h0 | h0
    · have := cnt_le (f, t) L; omega
    · exact h0
  obtain ⟨g, cap, rfl, hgl, hcap⟩ : ∃ g cap, lv = .slice (some ⟨g, 0, none⟩) L.length cap ∧ g < w.heap.size ∧ L.length ≤ cap := by
    obtain ⟨_, ⟨_, h2⟩ | ⟨g, cap, cur, rfl, _, hg, hc, _⟩⟩ := h.row
    · omega
    · exact ⟨g, cap, rfl, (Array.getElem?_eq_some_iff.1 hg).1, hc⟩
  have hy := h.box.lt
  have hcy := h.box.cell (j := 0) (u := .slice (some ⟨g, 0, none⟩) L.length cap) rfl
  have H := Lib.hid h
  have HO := Lib.hid hone
  have HN := Lib.hid hn
  clear h hone ha hn
  go_enter Try.func32, Try.ntmps32
  go_wp2_with fail
  refine h43.mono ?_
  rintro e w' ⟨r, rfl, hr, rfl⟩
  obtain ⟨i, ⟨pk, pv, pb⟩, rfl, hi, hk, hc⟩ := hr.resolve_right (fun hx => hx.2 HN.out)
  have hil : i < L.length := (List.getElem?_eq_some_iff.1 hi).1
  have hilI : (i : Int) < (L.length : Int) := by omega
  have hpk := (H.out.pk _ (List.mem_of_getElem? hi)).1
  simp only at hpk
  obtain ⟨pva, pvc, rfl, -⟩ := id hpk
  have hcp : w'.cell? ⟨g, i * 3 + 2, none⟩ = some (.slice pva pb.length pvc) := by
    have := H.out.row.cells rfl (i * 3 + 2) _ (flatMap_at (enc := encK) (k := 3) (fun _ => rfl) L i 2 _ (.slice pva pb.length pvc) hi rfl)
    rw [Go.WideShapes.add_plain, Nat.zero_add] at this
    exact this
  have hw1 : IntKind.i64.wrap ((i : Int) + 1) = (i : Int) + 1 := by simp [IntKind.wrap, IntKind.signed, IntKind.bits]; omega
  have hb1 : (i : Int) + 1 ≤ (L.length : Int) := by omega
  have hb0 : (0 : Int) ≤ (i : Int) + 1 := by omega
  have hb2 : (i : Int) ≤ (cap : Int) := by omega
  have hi1 : i ≤ cap := by omega
  have hi2 : i + 1 ≤ L.length := by omega
  have HI := Lib.hid hi
  have HK := Lib.hid hk
  have HC := Lib.hid hc
  have hnewT := flat_take H.out.row i
  have hlenT : ((L.take i).flatMap encK).length = i * 3 := by rw [flatK_len, List.length_take, show min i L.length = i by omega]
  have honeT := encK_one (L := L.take i) (fun q hq => HO.out q (List.mem_of_mem_take hq))
  have HNT := Lib.hid hnewT
  have HLT := Lib.hid hlenT
  have HOT := Lib.hid honeT
  clear hi hk hc hr hpk hnewT hlenT honeT
  by_cases hcap1 : cap = i + 1
  · subst hcap1
    go_wp2_with (first
    | (at_builtin
       refine wpList_append_fresh w' rfl (.tmp 28) (.tmp 34) 44 rfl w'.heap.size 73 (.agg #[.int .i64 0, .int .i64 0, .slice none 0 0]) 3 40 underlying44 info73 rfl (by decide) (.slice none 0 0) 0 [] (by rfl) (World.ownsRow_nil _ _ _ _) ⟨g, 0, none⟩ i (i + 1) ((L.take i).flatMap encK) (by rfl) HLT.out HNT.out HOT.out (by unfold maxLen; omega) (by omega) (Nat.le_refl _) ?_
       intro v2 w2 hT2 hg2 ho2
       rw [Nat.zero_add, List.nil_append] at hT2
       obtain ⟨a2, c2, rfl⟩ := owns_slice hT2
       have hb2' : Below w'.heap.size w' w2 := (Below.refl _ w').grown hg2 (Nat.le_refl _) (fun k hk => by cases hk)
       have hcy2 : w2.cell? ⟨y, 0, none⟩ = some (.slice (some ⟨g, 0, none⟩) L.length (i + 1)) := by rw [hb2'.cell (p := ⟨y, 0, none⟩) hy]; exact hcy
       have hy2 : y < w2.heap.size := Nat.lt_of_lt_of_le hy hb2'.size
       have HT2 := Lib.hid hT2
       have HB2 := Lib.hid hb2'
       clear hT2 hg2 ho2 hb2')
    | (at_builtin
       (refine wpList_append_fresh w2 rfl (.tmp 36) (.tmp 43) 44 rfl w'.heap.size 73 (.agg #[.int .i64 0, .int .i64 0, .slice none 0 0]) 3 40 underlying44 info73 rfl (by decide) (.slice a2 i c2) i ((L.take i).flatMap encK) (by rfl) HT2.out ⟨g, 0, none⟩ 0 0 [] (by rfl) rfl (fun j u hj => ?hnew) (by simp) (by unfold maxLen; omega) (by omega) HB2.out.size ?_)
       case hnew => simp at hj
       intro v3 w3 hT3 hg3 ho3
       obtain ⟨a3, c3, rfl⟩ := owns_slice hT3
       have hbl3 : Below w'.heap.size w' w3 := HB2.out.grown hg3 HB2.out.size (fun k hk => (HT2.out.lt k hk).1)
       have hcy3 : w3.cell? ⟨y, 0, none⟩ = some (.slice (some ⟨g, 0, none⟩) L.length (i + 1)) := by rw [hbl3.cell (p := ⟨y, 0, none⟩) hy]; exact hcy
       have hfy3 : w3.frozen? ⟨y, 0, none⟩ = false := (H.out.below hbl3).box.free 0
       have hy3 : y < w3.heap.size := Nat.lt_of_lt_of_le hy hbl3.size
       have HT3 := Lib.hid hT3
       have HB3 := Lib.hid hbl3
       clear hT3 hg3 ho3 hbl3)
    | fail)
    go_tidy
    obtain rfl := HK.out
    have hdn : L.drop (i + 1) = [] := List.drop_eq_nil_of_le (by omega)
    have hLe : (L.take i).flatMap encK ++ [] = (L.eraseIdx i).flatMap encK := by rw [List.eraseIdx_eq_take_drop_succ, hdn, List.append_nil, List.append_nil]
    have hll : (L.eraseIdx i).length = i + 0 := by rw [List.length_eraseIdx, if_pos hil]; omega
    have hfin := H.out.put (L' := L.eraseIdx i) (H.out.below HB3.out).box (by rw [hll, ← hLe]; exact ownsRow_base HT3.out H.out.old.size) (fun q hq => H.out.pk q ((List.eraseIdx_sublist ..).subset hq)) (H.out.below HB3.out).old (.of_below HB3.out) (fun g' hg' => .inr (HT3.out.lt g' hg').1)
    exact ⟨i, _, _, HI.out, rfl, HC.out, rfl, hfin.1, hfin.2⟩
  · go_wp2_with (first
    | (at_builtin
       refine wpList_append_fresh w' rfl (.tmp 28) (.tmp 34) 44 rfl w'.heap.size 73 (.agg #[.int .i64 0, .int .i64 0, .slice none 0 0]) 3 40 underlying44 info73 rfl (by decide) (.slice none 0 0) 0 [] (by rfl) (World.ownsRow_nil _ _ _ _) ⟨g, 0, none⟩ i cap ((L.take i).flatMap encK) (by rfl) HLT.out HNT.out HOT.out (by unfold maxLen; omega) (by omega) (Nat.le_refl _) ?_
       intro v2 w2 hT2 hg2 ho2
       rw [Nat.zero_add, List.nil_append] at hT2
       obtain ⟨a2, c2, rfl⟩ := owns_slice hT2
       have hb2' : Below w'.heap.size w' w2 := (Below.refl _ w').grown hg2 (Nat.le_refl _) (fun k hk => by cases hk)
       have hcy2 : w2.cell? ⟨y, 0, none⟩ = some (.slice (some ⟨g, 0, none⟩) L.length cap) := by rw [hb2'.cell (p := ⟨y, 0, none⟩) hy]; exact hcy
       have hy2 : y < w2.heap.size := Nat.lt_of_lt_of_le hy hb2'.size
       have HT2 := Lib.hid hT2
       have HB2 := Lib.hid hb2'
       clear hT2 hg2 ho2 hb2')
    | (at_builtin
       (refine wpList_append_fresh w2 rfl (.tmp 36) (.tmp 43) 44 rfl w'.heap.size 73 (.agg #[.int .i64 0, .int .i64 0, .slice none 0 0]) 3 40 underlying44 info73 rfl (by decide) (.slice a2 i c2) i ((L.take i).flatMap encK) (by rfl) HT2.out ⟨g, (i + 1) * 3, none⟩ (L.length - (i + 1)) (cap - (i + 1)) ((L.drop (i + 1)).flatMap encK) (by rfl) (by rw [flatK_len, List.length_drop]) (fun j u hj => ?hnew) (encK_one (fun q hq => HO.out q (List.mem_of_mem_drop hq))) (by unfold maxLen; omega) (by omega) HB2.out.size ?_)
       case hnew =>
         have := flat_drop H.out.row (i + 1) (by omega) j u hj
         rw [Go.WideShapes.add_plain] at this ⊢
         rw [HB2.out.cell (p := ⟨g, (i + 1) * 3 + j, none⟩) hgl]; exact this
       intro v3 w3 hT3 hg3 ho3
       obtain ⟨a3, c3, rfl⟩ := owns_slice hT3
       have hbl3 : Below w'.heap.size w' w3 := HB2.out.grown hg3 HB2.out.size (fun k hk => (HT2.out.lt k hk).1)
       have hcy3 : w3.cell? ⟨y, 0, none⟩ = some (.slice (some ⟨g, 0, none⟩) L.length cap) := by rw [hbl3.cell (p := ⟨y, 0, none⟩) hy]; exact hcy
       have hfy3 : w3.frozen? ⟨y, 0, none⟩ = false := (H.out.below hbl3).box.free 0
       have hy3 : y < w3.heap.size := Nat.lt_of_lt_of_le hy hbl3.size
       have HT3 := Lib.hid hT3
       have HB3 := Lib.hid hbl3
       clear hT3 hg3 ho3 hbl3)
    | fail)
    go_tidy
    obtain rfl := HK.out
    have hLe : (L.take i).flatMap encK ++ (L.drop (i + 1)).flatMap encK = (L.eraseIdx i).flatMap encK := by rw [List.eraseIdx_eq_take_drop_succ, List.flatMap_append]
    have hll : (L.eraseIdx i).length = i + (L.length - (i + 1)) := by rw [List.length_eraseIdx, if_pos hil]; omega
    have hfin := H.out.put (L' := L.eraseIdx i) (H.out.below HB3.out).box (by rw [hll, ← hLe]; exact ownsRow_base HT3.out H.out.old.size) (fun q hq => H.out.pk q ((List.eraseIdx_sublist ..).subset hq)) (H.out.below HB3.out).old (.of_below HB3.out) (fun g' hg' => .inr (HT3.out.lt g' hg').1)
    exact ⟨i, _, _, HI.out, rfl, HC.out, rfl, hfin.1, hfin.2⟩
end
end Go.Proofs.Ytkkambhkfegodaa
