/- StampAgrees' arguments: how they are read. Conditions: each law's own. -/
import Derived.Test.YtamjdghjaimihaaAMem
namespace Go.Proofs.Ytamjdghjaimihaa
open Go.ChangeShapes Go.WideShapes Go.ChangeAt Go.RowKit

def encGV (x : List Int × Value) : List Value := [x.2]
def encU (n : Int) : List Value := [.int .u8 n]
def enc3 (t : Int × Int × Int) : List Value := [.int .u8 t.1, .int .u8 t.2.1, .int .u8 t.2.2]
def U8 (n : Int) : Prop := 0 ≤ n ∧ n < 256
theorem u8_wf {n : Int} (h : (Lit.int .u8 n).wf = true) : U8 n := by
  simp [Lit.wf, IntKind.min, IntKind.max, IntKind.signed, IntKind.bits] at h
  unfold U8; omega
theorem cells5 : Try.prog.cellsOf 5 = 1 := by kernel_rfl
theorem cells40 : Try.prog.cellsOf 40 = 1 := by kernel_rfl
theorem cells41 : Try.prog.cellsOf 41 = 4 := by kernel_rfl
theorem cells56 : Try.prog.cellsOf 56 = 3 := by kernel_rfl
theorem opens_array {H : Type} {E : TypeId × Value → H} {P : Program} {W : World} {t e : TypeId} {n k : Nat} (ht : P.underlying t = some (.array n e)) (hk : P.cellsOf e = k) {φ : List Value → Prop} (h : Opens E P W e φ) :
    Opens E P W t fun cs => cs.length = P.cellsOf t ∧ ∀ i, i < n → φ ((cs.drop (i * k)).take k) := by
  intro f cs y hy
  obtain ⟨xs, m, -, -, hl, hlen, hx⟩ := DataW.trod_array ht hy
  refine ⟨hl, fun i hi => ?_⟩
  have h1 := hx i hi
  rw [List.getElem?_eq_getElem (by omega), hk] at h1
  exact h m _ _ h1
theorem ArgAt.array {P : Program} {t e : TypeId} {n : Nat} {v : Value} {w : World} (h : ArgAt P t v w) (ht : P.underlying t = some (.array n e)) {φ : List Value → Prop} (ho : ∀ (H : Type) (E : TypeId × Value → H), Opens E P w t φ) :
    ∃ cs : List Value, v = .agg cs.toArray ∧ cs.length = P.cellsOf t ∧ φ cs := by
  obtain ⟨⟨b, hb⟩, _⟩ := id h
  have h2 := hb
  simp only [Value.okWide, ht] at h2
  obtain ⟨cs, rfl, hl, -⟩ := h2
  exact ⟨cs.toList, by simp, by simpa using hl, h.opens ho⟩
theorem opensGroups {H : Type} (E : TypeId × Value → H) (w : World) : Opens E Try.prog w 39 fun cs => ∃ v xs, (∀ x ∈ xs, RowOf encG 1 w x.2 x.1) ∧ cs = [v] ∧ RowOf encGV 1 w v xs :=
  opens_slice (R := fun x : List Int × Value => RowOf encG 1 w x.2 x.1) Try.underlying39 cells32 (by decide) (fun _ => rfl) ((opensInts E w).mono fun cs ⟨v, xs, _, he, hr⟩ => ⟨(xs, v), hr, he⟩)
theorem opensU {H : Type} (E : TypeId × Value → H) (w : World) : Opens E Try.prog w 5 fun cs => ∃ n, U8 n ∧ cs = encU n := (opens_int Try.underlying5).mono fun _ ⟨n, h, e⟩ => ⟨n, u8_wf h, e⟩
theorem opens40 {H : Type} (E : TypeId × Value → H) (w : World) : Opens E Try.prog w 40 fun cs => ∃ v xs, (∀ x ∈ xs, U8 x) ∧ cs = [v] ∧ RowOf encU 1 w v xs :=
  opens_slice Try.underlying40 cells5 (by decide) (fun _ => rfl) (opensU E w)
/-- An order of the four groups: o: as lists; v: as values. -/
structure OrdAt (w : World) (o : Nat → List Int) (v : Nat → Value) : Prop where
  row : ∀ g, g < 4 → RowOf encU 1 w (v g) (o g)
  u8 : ∀ g, g < 4 → ∀ x ∈ o g, U8 x
theorem OrdAt.below {w w' : World} {o : Nat → List Int} {v : Nat → Value} (h : OrdAt w o v) (hb : Below w.heap.size w w') : OrdAt w' o v := ⟨fun g hg => (h.row g hg).keep hb, h.u8⟩
def encO (v : Nat → Value) : List Value := [v 0, v 1, v 2, v 3]
theorem encO_at (v : Nat → Value) {g : Nat} (hg : g < 4) : (encO v)[g]? = some (v g) := by
  obtain rfl | rfl | rfl | rfl : g = 0 ∨ g = 1 ∨ g = 2 ∨ g = 3 := by omega
  all_goals rfl
theorem opens41 {H : Type} (E : TypeId × Value → H) (w : World) : Opens E Try.prog w 41 fun cs => ∃ o v, OrdAt w o v ∧ cs = encO v := by
  refine (opens_array Try.underlying41 cells40 (opens40 E w)).mono ?_
  rintro cs ⟨hl, h⟩
  rw [cells41] at hl
  match cs, hl with
  | [c0, c1, c2, c3], _ =>
    obtain ⟨v0, x0, u0, e0, r0⟩ := h 0 (by omega)
    obtain ⟨v1, x1, u1, e1, r1⟩ := h 1 (by omega)
    obtain ⟨v2, x2, u2, e2, r2⟩ := h 2 (by omega)
    obtain ⟨v3, x3, u3, e3, r3⟩ := h 3 (by omega)
    simp at e0 e1 e2 e3
    subst e0 e1 e2 e3
    refine ⟨fun g => match g with | 0 => x0 | 1 => x1 | 2 => x2 | _ => x3, fun g => match g with | 0 => c0 | 1 => c1 | 2 => c2 | _ => c3, ⟨fun g hg => ?_, fun g hg => ?_⟩, rfl⟩
    · obtain rfl | rfl | rfl | rfl : g = 0 ∨ g = 1 ∨ g = 2 ∨ g = 3 := by omega
      · exact r0
      · exact r1
      · exact r2
      · exact r3
    · obtain rfl | rfl | rfl | rfl : g = 0 ∨ g = 1 ∨ g = 2 ∨ g = 3 := by omega
      · exact u0
      · exact u1
      · exact u2
      · exact u3
def T3 (t : Int × Int × Int) : Prop := U8 t.1 ∧ U8 t.2.1 ∧ U8 t.2.2
theorem opens56 {H : Type} (E : TypeId × Value → H) (w : World) : Opens E Try.prog w 56 fun cs => ∃ t, T3 t ∧ cs = enc3 t := by
  refine (opens_array Try.underlying56 cells5 (opensU E w)).mono ?_
  rintro cs ⟨hl, h⟩
  rw [cells56] at hl
  match cs, hl with
  | [c0, c1, c2], _ =>
    obtain ⟨n0, u0, e0⟩ := h 0 (by omega)
    obtain ⟨n1, u1, e1⟩ := h 1 (by omega)
    obtain ⟨n2, u2, e2⟩ := h 2 (by omega)
    simp [encU] at e0 e1 e2
    subst e0 e1 e2
    exact ⟨(n0, n1, n2), ⟨u0, u1, u2⟩, rfl⟩
theorem opens42 {H : Type} (E : TypeId × Value → H) (w : World) : Opens E Try.prog w 42 fun cs => ∃ v xs, (∀ x ∈ xs, T3 x) ∧ cs = [v] ∧ RowOf enc3 3 w v xs :=
  opens_slice Try.underlying42 cells56 (by decide) (fun _ => rfl) (opens56 E w)
end Go.Proofs.Ytamjdghjaimihaa
