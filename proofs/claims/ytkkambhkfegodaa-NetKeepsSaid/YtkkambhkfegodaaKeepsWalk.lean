/- The law NetKeeps's arguments. Conditions: each law's own. -/
import Derived.Test.YtkkambhkfegodaaKeeps
namespace Go.Proofs.Ytkkambhkfegodaa
open Go.ChangeShapes Go.WideShapes Go.ChangeAt Go.RowKit

theorem c5long (am at_ : Option Addr) (lm cm ln ct : Nat) (w : World) (h : 100 < lm ∨ 60 < ln) : Calls Try.prog 5 #[.slice am lm cm, .slice at_ ln ct] w fun e w' => e = .returned (.bool true) ∧ Below w.heap.size w w' := by
  refine gen fun R hR => ?_
  by_cases h1 : 100 < (lm : Int)
  · clear h
    go_enter Try.func5, Try.ntmps5
    go_wp2_with (first
      | (go_at_call 8
         (with_reducible refine (c8 w).mono ?_)
         rintro e w1 ⟨rfl, hb1⟩)
      | (go_at_call 8
         (with_reducible refine (c8 _).mono ?_)
         rintro e w2 ⟨rfl, hb2⟩)
      | fail)
    go_tidy
    exact ⟨rfl, hb1.trans (hb2.mono hb1.size)⟩
  · have h2 : 60 < (ln : Int) := by omega
    clear h
    go_enter Try.func5, Try.ntmps5
    go_wp2_with (first
      | (go_at_call 8
         (with_reducible refine (c8 w).mono ?_)
         rintro e w1 ⟨rfl, hb1⟩)
      | (go_at_call 8
         (with_reducible refine (c8 _).mono ?_)
         rintro e w2 ⟨rfl, hb2⟩)
      | fail)
    go_tidy
    exact ⟨rfl, hb1.trans (hb2.mono hb1.size)⟩
theorem opens_array {H : Type} {E : TypeId × Value → H} {P : Program} {W : World} {t e : TypeId} {n : Nat} (ht : P.underlying t = some (.array n e)) {φ : List Value → Prop} (h : Opens E P W e φ) :
    Opens E P W t fun cs => cs.length = P.cellsOf t ∧ ∀ i, i < n → φ ((cs.drop (i * P.cellsOf e)).take (P.cellsOf e)) := by
  intro m cs y hy
  obtain ⟨xs, m', _, _, hl, hlen, hf⟩ := DataW.trod_array ht hy
  refine ⟨hl, fun i hi => ?_⟩
  have h1 := hf i hi
  rw [List.getElem?_eq_getElem (by omega)] at h1
  exact h m' _ _ h1
theorem cells36 : Try.prog.cellsOf 36 = 2 := by kernel_rfl
theorem underlying36 : Try.prog.underlying 36 = some (.array 2 5) := by kernel_rfl
set_option maxRecDepth 100000 in
theorem opensPair {H : Type} (E : TypeId × Value → H) (w : World) : Opens E Try.prog w 36 fun cs => ∃ p : Nat × Nat, (p.1 < 256 ∧ p.2 < 256) ∧ cs = encP p := by
  refine (opens_array underlying36 (opens_int Try.underlying5)).mono ?_
  rintro cs ⟨hl, h⟩
  rw [cells36] at hl
  obtain ⟨a, ha, h0⟩ := h 0 (by decide)
  obtain ⟨b, hb, h1⟩ := h 1 (by decide)
  rw [cells5] at h0 h1
  match cs, hl with
  | [x, y], _ =>
    simp at h0 h1
    simp [Lit.wf, IntKind.min, IntKind.max, IntKind.signed, IntKind.bits] at ha hb
    refine ⟨(a.toNat, b.toNat), ⟨by simp only; omega, by simp only; omega⟩, ?_⟩
    unfold encP
    rw [h0, h1, show ((a.toNat : Nat) : Int) = a by omega, show ((b.toNat : Nat) : Int) = b by omega]
set_option maxRecDepth 100000 in
theorem opensPairs {H : Type} (E : TypeId × Value → H) (w : World) : Opens E Try.prog w 34 fun cs => ∃ (v : Value) (ms : List (Nat × Nat)), (∀ p ∈ ms, p.1 < 256 ∧ p.2 < 256) ∧ cs = [v] ∧ RowOf encP 2 w v ms :=
  opens_slice Try.underlying34 cells36 (by decide) (fun _ => rfl) (opensPair E w)
set_option maxRecDepth 100000 in
theorem keepsWalk (v0 v1 : Value) (w : World) (a0 : ArgAt Try.prog 34 v0 w) (a1 : ArgAt Try.prog 22 v1 w) : Calls Try.prog 5 #[v0, v1] w fun e w' => e = .returned (.bool true) ∧ Below w.heap.size w w' := by
  obtain ⟨v, ms, hm, he, hrm⟩ := a0.slice Try.underlying34 fun _ E => opensPairs E w
  simp at he
  subst he
  obtain ⟨v, xs, hx, he, hr⟩ := a1.slice Try.underlying22 fun _ E => opensBytes E w
  simp at he
  subst he
  obtain ⟨ns, rfl, hb⟩ := nats xs hx
  obtain ⟨am, cm, hvm, _⟩ := id hrm
  obtain ⟨a, cap, hv, _⟩ := id hr
  simp only [List.length_map] at hv
  rw [hv] at hr ⊢
  rw [hvm] at hrm ⊢
  by_cases h : 100 < ms.length ∨ 60 < ns.length
  · exact c5long am a ms.length cm ns.length cap w h
  · refine c5 am a cm cap ms ns w hrm hr hm (fun i => ?_) (by omega) (by omega)
    unfold byt
    rw [List.getD_eq_getElem?_getD]
    cases hi : ns[i]? with
    | none => simp
    | some m => simpa using hb m (List.mem_of_getElem? hi)
end Go.Proofs.Ytkkambhkfegodaa
