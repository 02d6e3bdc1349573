/- Count. Conditions: each law's own. -/
import Derived.Test.YtkkambhkfegodaaLinks
namespace Go.Proofs.Ytkkambhkfegodaa
open Go.ChangeShapes Go.WideShapes Go.ChangeAt Go.RowKit

def total (B : Key → List (List Int)) (ks : List Key) : Nat := (ks.map fun k => (B k).length).sum
theorem total_take (B : Key → List (List Int)) (ks : List Key) (j : Nat) (k : Key) (h : ks[j]? = some k) : total B (ks.take (j + 1)) = total B (ks.take j) + (B k).length := by
  unfold total
  rw [List.take_add_one, h]
  simp
theorem total_le (B : Key → List (List Int)) (hB : ∀ k, (B k).length ≤ 64) : ∀ ks : List Key, total B ks ≤ ks.length * 64
  | [] => by simp [total]
  | k :: ks => by
    have := total_le B hB ks
    have := hB k
    simp only [total, List.map_cons, List.sum_cons, List.length_cons] at *
    omega
theorem RowOf.at54 {w : World} {a : Option Addr} {n cap : Nat} {ks : List Key} (h : RowOf encLL 2 w (.slice a n cap) ks) {j : Nat} (hj : j < ks.length) :
    ∃ b o k, a = some ⟨b, o, none⟩ ∧ b < w.heap.size ∧ ks[j]? = some k ∧ w.cell? ⟨b, o + j * 2, none⟩ = some (.int .i64 k.1) ∧ w.cell? ⟨b, o + j * 2 + 1, none⟩ = some (.int .i64 k.2) := by
  obtain ⟨a', cap', hv, h1, h2, h3⟩ := h
  cases hv
  obtain ⟨b, o, rfl, hlt, hc⟩ := h3 (by omega)
  have hk : ks[j]? = some ks[j] := List.getElem?_eq_getElem hj
  exact ⟨b, o, ks[j], rfl, hlt, hk, hc j 0 _ _ hk rfl, hc j 1 _ _ hk rfl⟩
def CountRel (B : Key → List (List Int)) (ks : List Key) (w1 : World) (c i : Value) (wr : World) : Prop :=
  ∃ j : Nat, i = .int .i64 j ∧ j ≤ ks.length ∧ c = .int .i64 (total B (ks.take j) : Nat) ∧ Below w1.heap.size w1 wr
def CountEnd (s : NS) (B : Key → List (List Int)) (w : World) (e : Ending) (w' : World) : Prop :=
  ∃ ks : List Key, e = .returned (.int .i64 (total B ks : Nat)) ∧ ks.Pairwise ltL ∧ (∀ k, k ∈ ks ↔ B k ≠ []) ∧ ks.length ≤ s.l.length ∧ Below w.heap.size w w'
set_option maxHeartbeats 4000000 in
set_option maxRecDepth 100000 in
theorem c12 {w : World} {x : Nat} {s : NS} {B : Key → List (List Int)} {Z : Nat → Prop} {N : Nat} (h : NetAt w x s B Z N) (hN : N ≤ 100000) : Calls Try.prog 12 #[.pointer (some ⟨x, 0, none⟩)] w (CountEnd s B w) := by
  refine gen (S := CountEnd s B w) fun R hR => ?_
  have h15 := c15 h hN
  have H := Lib.hid h
  clear h
  go_enter Try.func12, Try.ntmps12
  go_wp2_with (first | (go_at_call 15; refine h15.mono ?_; rintro e w1 ⟨v, ks, rfl, hrow, hpw, hmem, hlen, hb⟩; obtain ⟨a, cap, rfl, hcap, -⟩ := id hrow) | fail)
  have hkl : ks.length ≤ 100000 := Nat.le_trans hlen (Nat.le_trans H.out.keys hN)
  have HP := Lib.hid hpw
  have HK := Lib.hid hmem
  have HL := Lib.hid hlen
  have HB := Lib.hid hb
  have HR := Lib.hid hrow
  clear hpw hmem hlen hb hrow h15
  go_loopw [3, 9] (fun c i wr => CountRel B ks w1 c i wr) (fun _ i _ => ks.length - (intOf i).toNat)
  case atStart => exact ⟨0, rfl, by omega, rfl, Below.refl _ _⟩
  case round =>
    obtain ⟨j, rfl, hj, rfl, hbr⟩ := hrel
    rcases Nat.lt_or_ge j ks.length with hlt | hge
    · obtain ⟨b, o, ⟨k1, k2⟩, rfl, hbl, hk, hc0, hc1⟩ := HR.out.at54 hlt
      have hcc := hbr
      rw [← hbr.cell (p := ⟨b, o + j * 2, none⟩) hbl] at hc0
      rw [← hbr.cell (p := ⟨b, o + j * 2 + 1, none⟩) hbl] at hc1
      have hbl' := Nat.lt_of_lt_of_le hbl hbr.size
      have HBR := Lib.hid hbr
      have HKK := Lib.hid hk
      clear hbr hcc hk
      go_wp2
      generalize hW : (World.alloc _ _) = W1
      have hB1 : Below w1.heap.size w1 W1 := by rw [← hW]; exact HBR.out.alloc HBR.out.size _
      have hN1 : NetAt W1 x s B Z N := H.out.below (HB.out.trans (hB1.mono HB.out.size))
      have hK1 : VarAt W1 wr.heap.size 54 [.int .i64 k1, .int .i64 k2] := by rw [← hW]; exact VarAt.new wr 54 [.int .i64 k1, .int .i64 k2]
      have e1 := hN1.box.cell (j := 0) (u := .map (some s.r)) rfl
      have e2 := hK1.cell (j := 0) (u := .int .i64 k1) rfl
      have e3 := hK1.cell (j := 1) (u := .int .i64 k2) rfl
      have hlk := look54 (w := W1.drew) hN1.map k1 k2
      obtain ⟨va, cp, xs, hv, -⟩ := hN1.look (k1, k2)
      rw [hv] at hlk
      have hsm : total B (ks.take j) ≤ 100000 * 64 := Nat.le_trans (total_le B H.out.small _) (Nat.mul_le_mul_right _ (by simp; omega))
      have hsm2 : (B (k1, k2)).length ≤ 64 := H.out.small _
      have htk := total_take B ks j (k1, k2) HKK.out
      have HT := Lib.hid htk
      have HB1 := Lib.hid hB1
      generalize hTT : total B (ks.take j) = T at hsm
      generalize hLL : (B (k1, k2)).length = L at hsm2 hlk
      have HTT := Lib.hid hTT
      have HLL := Lib.hid hLL
      clear hv hW hN1 hB1 hK1 htk hTT hLL
      go_region_held3 (fun w' => w'.cell? ⟨x, 0, none⟩ = some (.map (some s.r)) ∧ w'.cell? ⟨wr.heap.size, 0, none⟩ = some (.int .i64 k1) ∧ w'.cell? ⟨wr.heap.size, 1, none⟩ = some (.int .i64 k2))
        (first | go_keep | fail) (fail)
      go_wp2
      go_tidy
      have hw : IntKind.i64.wrap ((T : Int) + (L : Int)) = ((T + L : Nat) : Int) := by
        have : (Lit.int .i64 ((T : Int) + (L : Int))).wf = true := by simp [Lit.wf, IntKind.min, IntKind.max, IntKind.signed, IntKind.bits]; omega
        simp [IntKind.wrap, IntKind.signed, IntKind.bits]; omega
      refine ⟨⟨j + 1, by simp, by omega, ?_, HB1.out.drew⟩, by simp [intOf]; omega⟩
      rw [hw, HT.out, HTT.out, HLL.out]
    · obtain rfl : j = ks.length := by omega
      have HBR := Lib.hid hbr
      clear hbr
      go_wp2
      go_tidy
      exact ⟨ks, by rw [List.take_length]; rfl, HP.out, HK.out, HL.out, HB.out.trans (HBR.out.mono HB.out.size)⟩
end Go.Proofs.Ytkkambhkfegodaa
