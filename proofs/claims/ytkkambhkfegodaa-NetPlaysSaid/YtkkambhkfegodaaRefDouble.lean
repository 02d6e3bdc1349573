/- The reference: Double; are two slices of bytes, two bags alike? Conditions: each law's own. -/
import Derived.Test.YtkkambhkfegodaaRefTake
namespace Go.Proofs.Ytkkambhkfegodaa
open Go.ChangeShapes Go.WideShapes Go.ChangeAt Go.RowKit

section
variable {w0 w : World} {y : Nat} {lv : Value} {L : List Pkt}
theorem PlaceOf.none {k : Key} {a r : Int} (h : PlaceOf L k a r) (hn : ¬ (0 ≤ a ∧ a < (cnt k L : Int))) : r = -1 := by
  rcases h with ⟨i, p, rfl, hi, hk, hc⟩ | ⟨rfl, _⟩
  · refine absurd ?_ hn
    have h1 := cnt_take_le k L (i + 1)
    rw [← take_push hi, cnt_push, if_pos hk] at h1
    omega
  · rfl
theorem c43none (h : RefAt w0 w y lv L) (hl : L.length ≤ 100000) (f t a : Int) (ha : (Lit.int .i64 a).wf = true) (hn : ¬ (0 ≤ a ∧ a < (cnt (f, t) L : Int))) :
    Calls Try.prog 43 #[.pointer (some ⟨y, 0, none⟩), .int .i64 f, .int .i64 t, .int .i64 a] w fun e w' => e = .returned (.int .i64 (-1)) ∧ w' = w := by
  refine (c43 h hl f t a ha).mono ?_
  rintro e w' ⟨r, rfl, hr, rfl⟩
  rw [hr.none hn]
  exact ⟨rfl, rfl⟩
def PlaceAt (L : List Pkt) (k : Key) (a : Int) (w : World) (e : Ending) (w' : World) : Prop := ∃ (i : Nat) (p : Pkt), e = .returned (.int .i64 (i : Int)) ∧ L[i]? = some p ∧ p.1 = k ∧ (cnt k (L.take i) : Int) = a ∧ w' = w
theorem c43at (h : RefAt w0 w y lv L) (hl : L.length ≤ 100000) (f t a : Int) (ha : (Lit.int .i64 a).wf = true) (hn : 0 ≤ a ∧ a < (cnt (f, t) L : Int)) :
    Calls Try.prog 43 #[.pointer (some ⟨y, 0, none⟩), .int .i64 f, .int .i64 t, .int .i64 a] w (PlaceAt L (f, t) a w) := by
  refine (c43 h hl f t a ha).mono ?_
  rintro e w' ⟨r, rfl, hr, rfl⟩
  obtain ⟨i, p, rfl, hi, hk, hc⟩ := hr.resolve_right (fun hx => hx.2 hn)
  exact ⟨i, p, rfl, hi, hk, hc, rfl⟩
theorem c34none (h : RefAt w0 w y lv L) (hl : L.length ≤ 100000) (f t a : Int) (ha : (Lit.int .i64 a).wf = true) (hn : ¬ (0 ≤ a ∧ a < (cnt (f, t) L : Int))) :
    Calls Try.prog 34 #[.pointer (some ⟨y, 0, none⟩), .int .i64 f, .int .i64 t, .int .i64 a] w fun e w' => e = .returned (.bool false) ∧ w' = w := by
  refine gen fun R hR => ?_
  have h43 := c43none h hl f t a ha hn
  clear h ha hn
  go_enter Try.func34, Try.ntmps34
  go_wp2_with (first | (go_at_call 43; refine h43.mono ?_; rintro e w' ⟨rfl, rfl⟩) | fail)
theorem RefAt.pktcell {g cap : Nat} (h : RefAt w0 w y (.slice (some ⟨g, 0, none⟩) L.length cap) L) {i : Nat} {p : Pkt} (hi : L[i]? = some p) : w.cell? ⟨g, i * 3 + 2, none⟩ = some p.2.1 := by
  have := h.row.cells rfl (i * 3 + 2) _ (flatMap_at (enc := encK) (k := 3) (fun _ => rfl) L i 2 _ p.2.1 hi rfl)
  rw [Go.WideShapes.add_plain, Nat.zero_add] at this
  exact this
theorem RefAt.some (h : RefAt w0 w y lv L) (hp : 0 < L.length) : ∃ g cap, lv = .slice (some ⟨g, 0, none⟩) L.length cap ∧ g < w.heap.size ∧ L.length ≤ cap := by
  obtain ⟨_, ⟨_, h2⟩ | ⟨g, cap, cur, rfl, _, hg, hc, _⟩⟩ := h.row
  · omega
  · exact ⟨g, cap, rfl, (Array.getElem?_eq_some_iff.1 hg).1, hc⟩
def RDoublePost (w0 : World) (y : Nat) (lv : Value) (L : List Pkt) (k : Key) (a : Int) (w : World) (e : Ending) (w' : World) : Prop :=
  ∃ (i : Nat) (p : Pkt), L[i]? = some p ∧ p.1 = k ∧ (cnt k (L.take i) : Int) = a ∧
    ((64 ≤ cnt k L ∧ e = .returned (.bool false) ∧ Below w.heap.size w w') ∨ (cnt k L < 64 ∧ e = .returned (.bool true) ∧ ∃ lv', RefAt w0 w' y lv' (L ++ [p]) ∧ RefStep w y lv w' lv'))
set_option maxHeartbeats 2000000 in
theorem c34 (h : RefAt w0 w y lv L) (hl : L.length ≤ 10000) (f t a : Int) (ha : (Lit.int .i64 a).wf = true) (hn : 0 ≤ a ∧ a < (cnt (f, t) L : Int)) :
    Calls Try.prog 34 #[.pointer (some ⟨y, 0, none⟩), .int .i64 f, .int .i64 t, .int .i64 a] w (RDoublePost w0 y lv L (f, t) a w) := by
  refine gen (S := RDoublePost w0 y lv L (f, t) a w) fun R hR => ?_
  have h43 := c43at h (by omega) f t a ha hn
  have hLp : 0 < L.length := by have := cnt_le (f, t) L; omega
  obtain ⟨g, cap, rfl, hgl, hcap⟩ := h.some hLp
  have hy := h.box.lt
  have hcy := h.box.cell (j := 0) (u := .slice (some ⟨g, 0, none⟩) L.length cap) rfl
  have H := Lib.hid h
  clear h ha hn
  go_enter Try.func34, Try.ntmps34
  go_wp2_with fail
  refine h43.mono ?_
  rintro e w' ⟨i, ⟨pk, pv, pb⟩, rfl, hi, hk, hc, rfl⟩
  simp only at hk
  have hil : i < L.length := (List.getElem?_eq_some_iff.1 hi).1
  have hilI : (i : Int) < (L.length : Int) := by omega
  have hi0 : (0 : Int) ≤ (i : Int) := by omega
  have hpk := H.out.pk _ (List.mem_of_getElem? hi)
  simp only at hpk
  have hcp := H.out.pktcell hi
  simp only at hcp
  obtain ⟨pva, pvc, rfl, -⟩ := id hpk.1
  subst hk
  rcases Nat.lt_or_ge (cnt (f, t) L) 64 with hlt | hge
  · have h31 := c31 H.out hl f t pva pb.length pvc pb hpk.1 hpk.2 hlt
    have HI := Lib.hid hi
    have HC := Lib.hid hc
    clear hi hc hpk
    go_wp2_with (first | (go_at_call 31; refine h31.mono ?_; rintro e w2 ⟨rfl, lv', h1, h2⟩) | fail)
    go_tidy
    exact ⟨i, _, HI.out, rfl, HC.out, .inr ⟨hlt, rfl, lv', h1, h2⟩⟩
  · have h31 := c31full H.out (by omega) f t (.slice pva pb.length pvc) hge
    have HI := Lib.hid hi
    have HC := Lib.hid hc
    clear hi hc hpk
    go_wp2_with (first | (go_at_call 31; refine h31.mono ?_; rintro e w2 ⟨rfl, hb2⟩) | fail)
    go_tidy
    exact ⟨i, _, HI.out, rfl, HC.out, .inl ⟨hge, rfl, hb2⟩⟩
/-! Same. -/
def SameRel (xs ys : List Int) (w : World) (i : Value) (wr : World) : Prop := ∃ j n : Nat, j ≤ xs.length ∧ i = .int .i64 j ∧ xs.take j = ys.take j ∧ wr = w.drewN n
def SameEnd (b : Bool) (w : World) (e : Ending) (w' : World) : Prop := ∃ n, e = .returned (.bool b) ∧ w' = w.drewN n
theorem RowOf.byteAt {a : Option Addr} {n cap : Nat} {xs : List Int} (h : RowOf encB 1 w (.slice a n cap) xs) {i : Nat} (hi : i < xs.length) : ∃ b o u, a = some ⟨b, o, none⟩ ∧ b < w.heap.size ∧ xs[i]? = some u ∧ w.cell? ⟨b, o + i, none⟩ = some (.int .u8 u) := by
  obtain ⟨a', cap', hv, h1, h2, h3⟩ := h
  cases hv
  obtain ⟨b, o, rfl, hlt, hc⟩ := h3 (by omega)
  refine ⟨b, o, xs[i], rfl, hlt, List.getElem?_eq_getElem hi, ?_⟩
  have := hc i 0 _ _ (List.getElem?_eq_getElem hi) rfl
  simpa using this
set_option maxHeartbeats 2000000 in
theorem c33 {v1 v2 : Value} {xs ys : List Int} (h1 : RowOf encB 1 w v1 xs) (h2 : RowOf encB 1 w v2 ys) (hl : xs.length ≤ 100000) (hl2 : ys.length ≤ 100000) : Calls Try.prog 33 #[v1, v2] w (SameEnd (decide (xs = ys)) w) := by
  refine gen (S := SameEnd (decide (xs = ys)) w) fun R hR => ?_
  obtain ⟨a1, c1, rfl, -⟩ := id h1
  obtain ⟨a2, c2, rfl, -⟩ := id h2
  have H1 := Lib.hid h1
  have H2 := Lib.hid h2
  clear h1 h2
  by_cases hle : xs.length = ys.length
  · have hle2 : (ys.length : Int) = (xs.length : Int) := by omega
    obtain ⟨n, hn⟩ : ∃ n, n = xs.length := ⟨_, rfl⟩
    go_enter Try.func33, Try.ntmps33
    rw [← hle]
    go_wp2
    go_loopw [5] (fun i wr => SameRel xs ys w i wr) (fun i _ => xs.length - (intOf i).toNat)
    case atStart => exact ⟨0, 0, by omega, rfl, rfl, rfl⟩
    case round =>
      obtain ⟨j, nd, hj, rfl, htk, rfl⟩ := hrel
      rcases Nat.lt_or_ge j xs.length with hlt | hge
      · obtain ⟨b1, o1, u1, rfl, hb1, hu1, hc1⟩ := H1.out.byteAt hlt
        obtain ⟨b2, o2, u2, rfl, hb2, hu2, hc2⟩ := H2.out.byteAt (i := j) (by omega)
        have hjl : (j : Int) < (xs.length : Int) := by omega
        have HT := Lib.hid htk
        have HU1 := Lib.hid hu1
        have HU2 := Lib.hid hu2
        clear htk hu1 hu2
        by_cases hu : u1 = u2
        · subst hu
          go_wp2
          go_quiet (fail)
          go_wp2
          go_tidy
          refine ⟨⟨j + 1, nd + nq, by omega, rfl, ?_, by first | rfl | exact World.drewN_drewN ..⟩, by simp [intOf]; omega⟩
          rw [← take_push HU1.out, ← take_push HU2.out, HT.out]
        · have hu' : ¬ (u1 = u2) := hu
          go_wp2
          go_quiet (fail)
          go_wp2
          go_tidy
          refine ⟨nd + nq, ?_, by first | rfl | exact World.drewN_drewN ..⟩
          have : xs ≠ ys := by
            rintro rfl
            have := HU1.out.symm.trans HU2.out
            injection this with this
            exact hu this
          rw [decide_eq_false this]; rfl
      · obtain rfl : j = xs.length := by omega
        have hEq : xs = ys := by
          rw [List.take_length, hle, List.take_length] at htk; exact htk
        have HE := Lib.hid hEq
        clear htk hEq
        go_wp2
        go_tidy
        exact ⟨nd, by rw [decide_eq_true HE.out]; rfl, rfl⟩
  · have hle2 : ¬ ((xs.length : Int) = (ys.length : Int)) := by omega
    have hne : xs ≠ ys := fun e => hle (by rw [e])
    have HNE := Lib.hid hne
    clear hne
    go_enter Try.func33, Try.ntmps33
    go_wp2
    go_tidy
    exact ⟨0, by rw [decide_eq_false HNE.out]; rfl, rfl⟩
end
end Go.Proofs.Ytkkambhkfegodaa
