/- The reference: Send, drop, Clear. Conditions: each law's own. -/
import Derived.Test.YtkkambhkfegodaaRefOps
namespace Go.Proofs.Ytkkambhkfegodaa
open Go.ChangeShapes Go.WideShapes Go.ChangeAt Go.RowKit

theorem owns_slice {w : World} {b : Nat} {e : TypeId} {size n : Nat} {v : Value} {xs : List Value} (h : w.ownsRow b e size v n xs) : ∃ a c, v = .slice a n c := by
  obtain ⟨_, ⟨rfl, rfl⟩ | ⟨g, cap, cur, rfl, _⟩⟩ := h
  · exact ⟨_, _, rfl⟩
  · exact ⟨_, _, rfl⟩
section
variable {w0 w : World} {y : Nat} {lv : Value} {L : List Pkt}
/-- The reference's slice is stored anew. -/
theorem RefAt.put {w3 : World} {v' : Value} {L' : List Pkt} (h : RefAt w0 w y lv L) (hB : VarAt w3 y 46 [lv]) (hrow : w3.ownsRow w0.heap.size 73 3 v' L'.length (L'.flatMap encK)) (hpk : ∀ p ∈ L', RowOf encB 1 w0 p.2.1 p.2.2 ∧ p.2.2.length ≤ 1000)
    (ho : Below w0.heap.size w0 w3) (hfr : Frame (fun j => ¬ RefOwn y lv j) w w3) (hv : ∀ g, v'.ownBlock = some g → lv.ownBlock = some g ∨ w.heap.size ≤ g) :
    RefAt w0 (w3.setCell ⟨y, 0, none⟩ v') y v' L' ∧ RefStep w y lv (w3.setCell ⟨y, 0, none⟩ v') v' := by
  refine ⟨⟨?_, ?_, hpk, ho.setCell (p := ⟨y, 0, none⟩) h.yb _, h.yb⟩, ⟨hv, hfr.os, hfr.tape, hfr.output, by simp; exact hfr.size, fun j hj hA => ?_⟩⟩
  · have := hB.set 0 v'
    simpa using this
  · obtain ⟨h1, h2 | ⟨g, cap, cur, rfl, hb, hh, hr⟩⟩ := hrow
    · exact ⟨h1, .inl h2⟩
    · have hgy : g ≠ y := by
        intro e
        unfold VarAt at hB
        rw [e, hB] at hh
        injection hh with hh
        injection hh with _ h2
        exact absurd h2 (by decide)
      exact ⟨h1, .inr ⟨g, cap, cur, rfl, hb, by rw [Below.heap_setCell w3 ⟨y, 0, none⟩ _ g hgy]; exact hh, hr⟩⟩
  · rw [Below.heap_setCell w3 ⟨y, 0, none⟩ v' j (fun e => hA (.inl e))]
    exact hfr.block j hj hA
def RSendPost (w0 : World) (y : Nat) (lv : Value) (L' : List Pkt) (w : World) (e : Ending) (w' : World) : Prop := e = .returned (.bool true) ∧ ∃ lv', RefAt w0 w' y lv' L' ∧ RefStep w y lv w' lv'
theorem c31full (h : RefAt w0 w y lv L) (hl : L.length ≤ 100000) (f t : Int) (b : Value) (hc : 64 ≤ cnt (f, t) L) :
    Calls Try.prog 31 #[.pointer (some ⟨y, 0, none⟩), .int .i64 f, .int .i64 t, b] w fun e w' => e = .returned (.bool false) ∧ Below w.heap.size w w' := by
  refine gen fun R hR => ?_
  have h21 := c21 h hl f t
  have hc2 : 64 ≤ ((cnt (f, t) L : Nat) : Int) := by omega
  go_enter Try.func31, Try.ntmps31
  go_wp2_with (first | (go_at_call 21; refine h21.mono ?_; rintro e w2 ⟨v, rfl, hT, hb2⟩; obtain ⟨a, c, rfl, -⟩ := id hT) | fail)
  go_tidy
  exact ⟨rfl, hb2⟩
set_option maxHeartbeats 2000000 in
theorem c31 (h : RefAt w0 w y lv L) (hl : L.length ≤ 10000) (f t : Int) (ba : Option Addr) (bn bc : Nat) (bs : List Int) (hb : RowOf encB 1 w0 (.slice ba bn bc) bs) (hbs : bs.length ≤ 1000) (hc : cnt (f, t) L < 64) :
    Calls Try.prog 31 #[.pointer (some ⟨y, 0, none⟩), .int .i64 f, .int .i64 t, .slice ba bn bc] w (RSendPost w0 y lv (L ++ [((f, t), .slice ba bn bc, bs)]) w) := by
  refine gen (S := RSendPost w0 y lv (L ++ [((f, t), .slice ba bn bc, bs)]) w) fun R hR => ?_
  have h21 := c21 h (by omega) f t
  have hc2 : ¬ (64 ≤ ((cnt (f, t) L : Nat) : Int)) := by omega
  obtain ⟨av, cap, rfl, -⟩ := id h.rowOf
  have H := Lib.hid h
  have HB := Lib.hid hb
  have hy := h.box.lt
  clear h hb
  go_enter Try.func31, Try.ntmps31
  go_wp2_with (first
    | (go_at_call 21
       refine h21.mono ?_
       rintro e w2 ⟨v, rfl, hT, hb2⟩
       obtain ⟨a, c, rfl, -⟩ := id hT
       have H2 := Lib.hid (H.out.below hb2)
       have HB2 := Lib.hid hb2
       have hcy := H2.out.box.cell (j := 0) (u := .slice av L.length cap) rfl
       have hy2 := H2.out.box.lt
       clear hT hb2)
    | (at_builtin
       refine wpList_append_fresh (w2.alloc (.cells #[.int .i64 f, .int .i64 t, .slice ba bn bc] 73)) rfl (.tmp 19) (.tmp 24) 44 rfl w0.heap.size 73 (.agg #[.int .i64 0, .int .i64 0, .slice none 0 0]) 3 40 underlying44 info73 rfl (by decide) (.slice av L.length cap) L.length (L.flatMap encK) (by rfl) (H2.out.row.alloc _) ⟨w2.heap.size, 0, none⟩ 1 1 [.int .i64 f, .int .i64 t, .slice ba bn bc] (by rfl) rfl (cell_new w2 [.int .i64 f, .int .i64 t, .slice ba bn bc] 73) (by simp [Value.oneCell']) (by unfold maxLen; omega) (by omega) (by have := H2.out.old.size; simp; omega) ?_
       intro v3 w3 hT3 hg3 ho3
       obtain ⟨a3, c3, rfl⟩ := owns_slice hT3
       have hbW : Below w2.heap.size w2 (w2.alloc (.cells #[.int .i64 f, .int .i64 t, .slice ba bn bc] 73)) := (Below.refl _ _).alloc (Nat.le_refl _) _
       have hN := H2.out.below hbW
       have hB3 : VarAt w3 y 46 [.slice av L.length cap] := hN.box.grown hg3 (fun e => hN.ne e.symm)
       have hcy3 := hB3.cell (j := 0) (u := .slice av L.length cap) rfl
       have hfy3 := hB3.free 0
       have hy3 := hB3.lt
       have HB3 := Lib.hid hB3
       have HT3 := Lib.hid hT3
       have HG3 := Lib.hid hg3
       have HO3 := Lib.hid ho3
       clear hbW hN hB3 hT3 hg3 ho3)
    | fail)
  go_tidy
  have hbW : Below w2.heap.size w2 (w2.alloc (.cells #[.int .i64 f, .int .i64 t, .slice ba bn bc] 73)) := (Below.refl _ _).alloc (Nat.le_refl _) _
  have hfr : Frame (fun j => ¬ RefOwn y (.slice av L.length cap) j) w w3 := by
    refine Frame.trans (.of_below (HB2.out.trans (hbW.mono HB2.out.size))) ⟨HG3.out.os, HG3.out.tape, HG3.out.output, HG3.out.size, fun j hj hA => HG3.out.block j hj (fun e => hA (.inr e.symm))⟩
  have hold : Below w0.heap.size w0 w3 := (H2.out.below hbW).old.grown HG3.out (by have := H2.out.old.size; simp; omega) (fun k hk => ((H.out.row.lt k hk).1))
  have hfin := H.out.put (L' := L ++ [((f, t), .slice ba bn bc, bs)]) HB3.out (by
      have := HT3.out
      simp only [List.length_append, List.length_singleton, List.flatMap_append, List.flatMap_cons, List.flatMap_nil, List.append_nil]
      exact this) (fun p hp => by
      rcases List.mem_append.1 hp with hp | hp
      · exact H.out.pk p hp
      · simp at hp; subst hp; exact ⟨HB.out, hbs⟩) hold hfr (fun g hg => by
      rcases HO3.out with h3 | ⟨g', h3, h4⟩
      · exact .inl (by rw [← h3]; exact hg)
      · rw [h3] at hg; injection hg with hg
        have := HB2.out.size
        simp at h4
        exact .inr (by omega))
  exact ⟨rfl, _, hfin.1, hfin.2⟩
end
end Go.Proofs.Ytkkambhkfegodaa
