/- Slices whose elements take k cells each, read as lists; how a reading of an argument is opened to that. Conditions: each law's own. -/
import Derived.Test.YtamjdghjaimihaaKit
import Derived.Deep.Slices
import Derived.Deep.Strs
import Derived.Lib.SmallJoins
namespace Go.Proofs.Ytamjdghjaimihaa
open Go.ChangeShapes Go.WideShapes Go.ChangeAt Go.RowKit

section
variable {α : Type}

/-- The slice value v reads as the list xs, an element x as the k cells 'enc x'. -/
def RowOf (enc : α → List Value) (k : Nat) (w : World) (v : Value) (xs : List α) : Prop :=
  ∃ a cap, v = .slice a xs.length cap ∧ xs.length ≤ cap ∧ cap ≤ maxLen ∧
    (0 < xs.length → ∃ b o, a = some ⟨b, o, none⟩ ∧ b < w.heap.size ∧ ∀ i j x u, xs[i]? = some x → (enc x)[j]? = some u → w.cell? ⟨b, o + i * k + j, none⟩ = some u)

theorem RowOf.nil (enc : α → List Value) (k : Nat) (w : World) : RowOf enc k w (.slice none 0 0) [] := ⟨none, 0, rfl, by simp, by simp [maxLen], by simp⟩

theorem RowOf.keep {enc : α → List Value} {k : Nat} {w w' : World} {v : Value} {xs : List α} (h : RowOf enc k w v xs) (hb : Below w.heap.size w w') : RowOf enc k w' v xs := by
  obtain ⟨a, cap, hv, h1, h2, h3⟩ := h
  refine ⟨a, cap, hv, h1, h2, fun hp => ?_⟩
  obtain ⟨b, o, ha, hlt, hc⟩ := h3 hp
  exact ⟨b, o, ha, Nat.lt_of_lt_of_le hlt hb.size, fun i j x u hx hu => by rw [hb.cell (p := ⟨b, o + i * k + j, none⟩) hlt]; exact hc i j x u hx hu⟩

theorem RowOf.keepAt {enc : α → List Value} {k B : Nat} {w w' : World} {v : Value} {xs : List α} (h : RowOf enc k w v xs) (hb : Below B w w') (hB : w.heap.size ≤ B) : RowOf enc k w' v xs :=
  h.keep (hb.mono hB)

theorem RowOf.len {enc : α → List Value} {k : Nat} {w : World} {v : Value} {xs : List α} (h : RowOf enc k w v xs) : xs.length ≤ maxLen := by
  obtain ⟨a, cap, _, h1, h2, _⟩ := h; omega

theorem flatMap_at {enc : α → List Value} {k : Nat} (hk : ∀ x, (enc x).length = k) : ∀ (xs : List α) (i j : Nat) (x : α) (u : Value), xs[i]? = some x → (enc x)[j]? = some u → (xs.flatMap enc)[i * k + j]? = some u
  | [], _, _, _, _, hx, _ => by simp at hx
  | y :: ys, i, j, x, u, hx, hu => by
    have hj : j < k := by rw [← hk x]; exact (List.getElem?_eq_some_iff.1 hu).1
    simp only [List.flatMap_cons]
    cases i with
    | zero =>
      simp at hx; subst hx
      rw [Nat.zero_mul, Nat.zero_add, List.getElem?_append_left (by rw [hk]; exact hj)]; exact hu
    | succ i =>
      rw [List.getElem?_append_right (by rw [hk, Nat.succ_mul]; omega), hk, Nat.succ_mul, show i * k + k + j - k = i * k + j by omega]
      exact flatMap_at hk ys i j x u (by simpa using hx) hu

/-- What a call itself has gathered. -/
theorem RowOf.of_owns {enc : α → List Value} {k base e n : Nat} {w : World} {v : Value} {xs : List α} (hk : ∀ x, (enc x).length = k) (h : w.ownsRow base e k v n (xs.flatMap enc)) (hn : n = xs.length) : RowOf enc k w v xs := by
  obtain ⟨h1, h2⟩ := h
  subst hn
  rcases h2 with ⟨rfl, h3⟩ | ⟨g, cap, cur, rfl, hb, hg, hnc, hcm, hcs, htake⟩
  · obtain rfl : xs = [] := List.eq_nil_of_length_eq_zero h3
    exact RowOf.nil _ _ _
  · refine ⟨some ⟨g, 0, none⟩, cap, rfl, hnc, hcm, fun _ => ⟨g, 0, rfl, (Array.getElem?_eq_some_iff.1 hg).1, fun i j x u hx hu => ?_⟩⟩
    rw [Nat.zero_add, cell_of_row w g _ cur e (0, 0) hg]
    have hj : j < k := by rw [← hk x]; exact (List.getElem?_eq_some_iff.1 hu).1
    have hi : i < xs.length := (List.getElem?_eq_some_iff.1 hx).1
    have hlt : i * k + j < xs.length * k := by
      calc i * k + j < i * k + k := by omega
        _ = (i + 1) * k := by rw [Nat.succ_mul]
        _ ≤ xs.length * k := Nat.mul_le_mul_right _ hi
    have hf := flatMap_at hk xs i j x u hx hu
    rw [← htake, List.getElem?_take, if_pos hlt, Array.getElem?_toList] at hf
    exact hf

/-- The first i elements: 'x[:i]'. -/
theorem RowOf.take {enc : α → List Value} {k : Nat} {w : World} {a : Option Addr} {n cap : Nat} {xs : List α} (h : RowOf enc k w (.slice a n cap) xs) (i : Nat) (hi : i ≤ n) : RowOf enc k w (.slice a i cap) (xs.take i) := by
  obtain ⟨a', cap', hv, h1, h2, h3⟩ := h
  cases hv
  refine ⟨a, cap, by rw [List.length_take, Nat.min_eq_left hi], by rw [List.length_take]; omega, h2, fun hp => ?_⟩
  rw [List.length_take] at hp
  obtain ⟨b, o, ha, hlt, hc⟩ := h3 (by omega)
  refine ⟨b, o, ha, hlt, fun m j x u hx hu => hc m j x u ?_ hu⟩
  rw [List.getElem?_take] at hx
  split at hx
  · exact hx
  · cases hx

/-- The elements from i on: 'x[i:]'. -/
theorem RowOf.drop {enc : α → List Value} {k : Nat} {w : World} {b o n cap : Nat} {xs : List α} (h : RowOf enc k w (.slice (some ⟨b, o, none⟩) n cap) xs) (i : Nat) (hi : i ≤ n) (q : Option Addr) (hq : i < n → q = some ⟨b, o + i * k, none⟩) :
    RowOf enc k w (.slice q (n - i) (cap - i)) (xs.drop i) := by
  obtain ⟨a', cap', hv, h1, h2, h3⟩ := h
  cases hv
  refine ⟨q, cap - i, by rw [List.length_drop], by rw [List.length_drop]; omega, by omega, fun hp => ?_⟩
  rw [List.length_drop] at hp
  obtain ⟨b', o', ha, hlt, hc⟩ := h3 (by omega)
  cases ha
  refine ⟨b, o + i * k, hq (by omega), hlt, fun m j x u hx hu => ?_⟩
  rw [List.getElem?_drop] at hx
  have := hc (i + m) j x u hx hu
  rw [Nat.add_mul, ← Nat.add_assoc] at this
  exact this

/-- A list out of what is known place by place. -/
theorem gather {p : Nat → α → Prop} : ∀ n : Nat, (∀ i, i < n → ∃ x, p i x) → ∃ xs : List α, xs.length = n ∧ ∀ i x, xs[i]? = some x → p i x
  | 0, _ => ⟨[], rfl, by simp⟩
  | n + 1, h => by
    obtain ⟨xs, hl, hx⟩ := gather n (fun i hi => h i (by omega))
    obtain ⟨x, hp⟩ := h n (by omega)
    refine ⟨xs ++ [x], by simp [hl], fun i y hy => ?_⟩
    rcases Nat.lt_or_ge i n with hi | hi
    · rw [List.getElem?_append_left (by omega)] at hy; exact hx i y hy
    · rw [List.getElem?_append_right (by omega)] at hy
      have : i = n := by
        have := (List.getElem?_eq_some_iff.1 hy).1
        simp at this; omega
      subst this
      rw [hl] at hy; simp at hy; subst hy; exact hp
end

section
variable {H : Type} (E : TypeId × Value → H) (P : Program) (W : World)

/-- Whatever can be read at this type has this form. -/
def Opens (t : TypeId) (φ : List Value → Prop) : Prop := ∀ n cs y, DataW.trod E P W 0 (fun _ => true) true n t cs = some y → φ cs

variable {E P W}
theorem Opens.mono {t : TypeId} {φ ψ : List Value → Prop} (h : Opens E P W t φ) (hm : ∀ cs, φ cs → ψ cs) : Opens E P W t ψ := fun n cs y hy => hm _ (h n cs y hy)
theorem opens_int {t : TypeId} {k : IntKind} (ht : P.underlying t = some (.int k)) : Opens E P W t fun cs => ∃ n, (Lit.int k n).wf = true ∧ cs = [.int k n] :=
  fun _ _ _ hy => let ⟨n, h, _, hw⟩ := DataW.trod_int ht hy; ⟨n, hw, h⟩
theorem opens_bool {t : TypeId} (ht : P.underlying t = some .bool) : Opens E P W t fun cs => ∃ b, cs = [.bool b] :=
  fun _ _ _ hy => let ⟨b, h, _⟩ := DataW.trod_bool ht hy; ⟨b, h⟩
theorem opens_string {t : TypeId} (ht : P.underlying t = some .string) : Opens E P W t fun cs => ∃ s : ByteArray, s.size ≤ maxLen ∧ cs = [.string s] :=
  fun _ _ _ hy => let ⟨s, h, _, hw⟩ := DataW.trod_string ht hy; ⟨s, hw, h⟩
theorem opens_struct {t : TypeId} {fs : Array Field} (ht : P.underlying t = some (.struct fs)) (φ : Nat → List Value → Prop) (h : ∀ i f, fs[i]? = some f → Opens E P W f.type (φ i)) :
    Opens E P W t fun cs => cs.length = P.cellsOf t ∧ ∀ i f, fs[i]? = some f → φ i ((cs.drop f.offset).take (P.cellsOf f.type)) := by
  intro n cs y hy
  obtain ⟨xs, m, _, _, hl, hlen, hf⟩ := DataW.trod_struct ht hy
  refine ⟨hl, fun i f hi => ?_⟩
  have h1 := hf i f hi
  have hi' : i < xs.length := by rw [hlen]; exact (Array.getElem?_eq_some_iff.1 hi).1
  rw [List.getElem?_eq_getElem hi'] at h1
  exact h i f hi m _ _ h1
theorem opens_slice {α : Type} {t e : TypeId} (ht : P.underlying t = some (.slice e)) {k : Nat} (hk : P.cellsOf e = k) {enc : α → List Value} (hk0 : 0 < k) (he : ∀ x, (enc x).length = k) {R : α → Prop}
    (h : Opens E P W e fun cs => ∃ x, R x ∧ cs = enc x) : Opens E P W t fun cs => ∃ v xs, (∀ x ∈ xs, R x) ∧ cs = [v] ∧ RowOf enc k W v xs := by
  intro n cs y hy
  rcases Go.Deep.open_slice ht hy with ⟨rfl, _⟩ | ⟨a, len, cap, m, q, D, Pl, rfl, hb, hl, hm, hmm, _, hx⟩
  · exact ⟨_, [], by simp, rfl, RowOf.nil _ _ _⟩
  · rw [hk] at hx
    simp only [if_true] at hmm
    obtain ⟨xs, hlx, hxs⟩ := gather (α := α) (p := fun i x => R x ∧ ∀ j u, (enc x)[j]? = some u → W.cell? ((a.add (i * k)).add j) = some u) len (fun i hi => by
      obtain ⟨cs', h1, h2⟩ := hx i (by omega)
      obtain ⟨x, hR, rfl⟩ := h q cs' _ h2
      obtain ⟨_, hlen, hc⟩ := World.cells?_some h1
      exact ⟨x, hR, fun j u hu => by rw [hc j (by rw [← he x]; exact (List.getElem?_eq_some_iff.1 hu).1)]; exact hu⟩)
    refine ⟨_, xs, ?_, rfl, some a, cap, by rw [hlx], by omega, hm, fun hp => ?_⟩
    · intro x hxm
      obtain ⟨i, hi⟩ := List.getElem?_of_mem hxm
      exact (hxs i x hi).1
    · obtain ⟨x0, hx0⟩ : ∃ x, xs[0]? = some x := ⟨xs[0], by rw [List.getElem?_eq_getElem hp]⟩
      obtain ⟨u0, hu0⟩ : ∃ u, (enc x0)[0]? = some u := ⟨(enc x0)[0]'(by rw [he]; exact hk0), by rw [List.getElem?_eq_getElem]⟩
      have h0 := (hxs 0 x0 hx0).2 0 u0 hu0
      obtain ⟨b, o, spot⟩ := a
      have hspot : spot = none := by
        simp only [Nat.zero_mul] at h0
        simpa [Addr.add] using World.cell?_spot h0
      subst hspot
      have hlt : b < W.heap.size := by
        have := World.block_lt_of_cell? W _ h0
        simpa [Addr.add] using this
      refine ⟨b, o, rfl, hlt, fun i j x u hi hu => ?_⟩
      have := (hxs i x hi).2 j u hu
      rw [Go.WideShapes.add_plain, Go.WideShapes.add_plain] at this
      exact this
end
end Go.Proofs.Ytamjdghjaimihaa
