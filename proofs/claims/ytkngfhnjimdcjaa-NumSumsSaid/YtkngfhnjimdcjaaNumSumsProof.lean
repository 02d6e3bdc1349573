/-
  The law NumSums returns true at every input, and writes nothing that was there. No condition.
-/
import Derived.Test.YtkngfhnjimdcjaaRows
import Derived.WalkKit
import Derived.ProofKit
import Derived.OpenShut
import Derived.ShutString
import Derived.ChangeOld
import Derived.Below
import Derived.WalkLawsBesides
import Derived.WalkSpells
import Derived.WalkSmall
import Derived.Test.YtkngfhnjimdcjaaRefs
namespace Go.Proofs.Ytkngfhnjimdcjaa.numSums
open Go.ChangeShapes Go.WideShapes Go.ChangeAt Go.RowKit
open Go.ChangeMaps (open_string shut_string)
set_option linter.unusedVariables false

theorem own : ownKnob Try.prog.godebug = none := by kernel_rfl
theorem laidOut : laidOutB Try.prog = true := by kernel_rfl

/-- WHAT THE WALK IS TOLD OF A SLICE OF INTEGERS THAT CAME IN: it is nil; or it leads to a row of 'cap' cells, the numbers 'zs' (the first 'len' are its elements, the rest its spare room), each fitting its kind. -/
def IsRow (k : IntKind) (w : World) (a : Option Addr) (len cap : Nat) (zs : List Int) : Prop :=
  (a = none ∧ len = 0 ∧ cap = 0 ∧ zs = []) ∨
  ∃ x, a = some x ∧ len ≤ cap ∧ cap ≤ maxLen ∧ zs.length = cap ∧ (∀ i, i < zs.length → w.cell? (x.add i) = some (.int k (zs.getD i 0))) ∧ ∀ n ∈ zs, (Lit.int k n).wf = true

theorem reads_of {w : World} {a : Option Addr} {len cap : Nat} {zs : List Int} (h : IsRow .u64 w a len cap zs) :
    ∃ l : List Nat, l.length = len ∧ Reads w a l cap := by
  rcases h with ⟨rfl, rfl, rfl, rfl⟩ | ⟨x, rfl, h1, h2, h3, h4, h5⟩
  · exact ⟨[], rfl, by simp, by simp [maxLen], by simp, by simp⟩
  · refine ⟨(zs.take len).map Int.toNat, by simp; omega, ?_, h2, ?_, ?_⟩
    · simp; omega
    · intro y hy
      simp only [List.mem_map] at hy
      obtain ⟨z, hz, rfl⟩ := hy
      have := h5 z (List.mem_of_mem_take hz)
      simp [Lit.wf, IntKind.min, IntKind.max, IntKind.signed, IntKind.bits] at this
      omega
    · intro hl
      have hl' : 0 < zs.length := by simp at hl; omega
      obtain ⟨b, o, rfl, hc⟩ := ints_at h4 hl'
      refine ⟨b, o, rfl, fun i hi => ?_⟩
      have hi' : i < zs.length ∧ i < len := by simp at hi; omega
      rw [hc i hi'.1]
      have hw := h5 zs[i] (List.getElem_mem hi'.1)
      simp [Lit.wf, IntKind.min, IntKind.max, IntKind.signed, IntKind.bits] at hw
      simp [hi'.1, hi'.2]
      omega

/-! ### STEP 1: THE WALK: the Go text returns true, AND WRITES NOTHING THAT WAS THERE: 'Below w.heap.size w w'' (Derived/Below.lean: '.refl', '.alloc', '.drew', '.setCell' at a new block, '.trans'). Open each 'IsRow' by 'rcases' AHEAD of 'go_enter'; part every test ahead of the walk. -/
theorem walk (a0 : Option Addr) (len0 cap0 : Nat) (z0 : List Int) (w : World) (w0 : IsRow .u64 w a0 len0 cap0 z0) :
    Calls Try.prog 8 #[.slice a0 len0 cap0] w fun e w' => e = .returned (.bool true) ∧ Below w.heap.size w w' := by
  obtain ⟨l, rfl, h⟩ := reads_of w0
  clear w0
  have H := Lib.hid h
  have hv := pick_find (-1) l h.2.2.1 (.inl rfl)
  have hv2 := pick_find 1 l h.2.2.1 (.inr rfl)
  have C1 := fun w h => c19 l a0 cap0 w h
  have C2 := fun w h => c21 l a0 cap0 w h
  have C3 : ∀ w, Reads w a0 l cap0 → Calls Try.prog 20 #[.slice a0 l.length cap0] w fun e w' => e = pickV (pickN (-1) l) ∧ ∃ n, w' = w.drewN n :=
    fun w h => (c20 l a0 cap0 w h).mono fun _ _ ⟨e, k⟩ => ⟨e.trans hv, k⟩
  have C4 : ∀ w, Reads w a0 l cap0 → Calls Try.prog 22 #[.slice a0 l.length cap0] w fun e w' => e = pickV (pickN 1 l) ∧ ∃ n, w' = w.drewN n :=
    fun w h => (c22 l a0 cap0 w h).mono fun _ _ ⟨e, k⟩ => ⟨e.trans hv2, k⟩
  have C5 := fun w h => c18 l a0 cap0 w h
  have C6 := fun w h => c23 l a0 cap0 w h
  clear hv hv2
  generalize pickN (-1) l = r1 at *
  generalize pickN 1 l = r2 at *
  have h2 := h.2.1
  unfold maxLen at h2
  have h1 := h.1
  clear h
  have D1 := Lib.hid C1
  have D2 := Lib.hid C2
  have D3 := Lib.hid C3
  have D4 := Lib.hid C4
  have D5 := Lib.hid C5
  have D6 := Lib.hid C6
  clear C1 C2 C3 C4 C5 C6
  refine gen fun R hR => ?_
  by_cases hlen : 100 < l.length
  · go_enter Try.func8, Try.ntmps8
    go_wp2_with (go_at_call 16; ((with_reducible refine (c16 _).mono ?_); rintro e w' ⟨rfl, rfl⟩))
    all_goals exact ⟨rfl, Below.refl _ _⟩
  · cases r1 <;> cases r2 <;> unfold pickV at *
    all_goals
      go_enter Try.func8, Try.ntmps8
      go_wp2_with (first
        | (go_at_call 16; ((with_reducible refine (c16 _).mono ?_); rintro e w' ⟨rfl, rfl⟩))
        | (go_at_call 19; ((with_reducible refine (D1.out _ H.out).mono ?_); rintro e w' ⟨rfl, rfl⟩))
        | (go_at_call 20; ((with_reducible refine (D3.out _ H.out).mono ?_); rintro e w' ⟨rfl, q1, rfl⟩))
        | (go_at_call 21; ((with_reducible refine (D2.out _ (H.out.drewN _)).mono ?_); rintro e w' ⟨rfl, rfl⟩))
        | (go_at_call 22; ((with_reducible refine (D4.out _ (H.out.drewN _)).mono ?_); rintro e w' ⟨rfl, q2, rfl⟩))
        | (go_at_call 18; ((with_reducible refine (D5.out _ (H.out.drewN _)).mono ?_); rintro e w' ⟨rfl, q3, rfl⟩))
        | (go_at_call 23; ((with_reducible refine (D6.out _ (H.out.drewN _)).mono ?_); rintro e w' ⟨rfl, q4, rfl⟩)))
      all_goals exact ⟨rfl, below_drewN (Below.refl _ _) _⟩

/-! ### THE ROW's STEP: WRITTEN OUT: LEAVE IT -/
set_option maxRecDepth 100000 in
theorem lifted (os : Os) (started : os.Started) (H : Type) (enc : TypeId × Value → H) :
    ReturnsInHanded {} Try.checked os 8 .any (Rows.numSumsSpec.pre6 enc Try.prog Try.f8 Rows.numSumsRow.domain false) (Rows.numSumsSpec.post enc Try.prog Try.f8 false true false false) := by
  refine returnsInHanded_of_change (C := Try.checked) own started (by kernel_rfl) Try.func8
    (ChangeSpec.witness6 (enc := enc) (C := Try.checked) false ⟨#[], #[.slice none 0 0], []⟩ 8 (by kernel_rfl) (by kernel_rfl) (by kernel_rfl) (by kernel_rfl)) ?_
  intro W base args ds gs before hval0 hW hcnd _
  have hval : ∀ (j : Nat) t v, Try.f8.params[j]? = some t → args[j]? = some v → Value.okWide Try.prog W .any base t v := hval0
  have hW' := hW
  obtain ⟨p, q, hA0, hV, rfl, hfz, hnd⟩ := hW
  have hA : DataW.TrodAll enc Try.prog W 0 (fun _ => true) true Try.f8.params.toList args.toList ds p := hA0
  rw [Try.params8] at hA hval
  obtain ⟨v0, vs0, d0, ds0, p0, q0, hargs, rfl, rfl, h0, r0⟩ := trodAll_cons hA
  obtain ⟨rfl, rfl, rfl⟩ := trodAll_nil r0
  obtain rfl : args = #[v0] := by cases args; simp_all
  obtain ⟨rfl, rfl⟩ := trodVars_none hV
  obtain ⟨a0, len0, cap0, rfl⟩ := okWide_slice Try.underlying30 (hval 0 30 v0 rfl rfl)
  have k0 := h0
  have lt0 : ∀ x ∈ p0, x.block < W.heap.size := by obtain ⟨m, hm⟩ := k0; exact DataW.trod_lt m _ _ _ hm
  obtain ⟨z0, w0⟩ : ∃ zs, IsRow .u64 W a0 len0 cap0 zs := by
    obtain ⟨fuel, hf⟩ := h0
    rcases open_ints Try.underlying30 Try.underlying22 (by kernel_rfl) hf with ⟨hcs, _⟩ | ⟨x, l, c, zs, hcs, _, hl, hm, hz, _, hcell, hwz⟩
    · simp [Value.cells] at hcs
      obtain ⟨rfl, rfl, rfl⟩ := hcs
      exact ⟨[], .inl ⟨rfl, rfl, rfl, rfl⟩⟩
    · simp [Value.cells] at hcs
      obtain ⟨rfl, rfl, rfl⟩ := hcs
      exact ⟨zs, .inr ⟨_, rfl, hl, hm, by simpa using hz, hcell, hwz⟩⟩
  clear hA0 hval0
  refine (walk a0 len0 cap0 z0 W w0).mono fun e W' ⟨he, bel⟩ => ?_
  subst he
  exact ⟨_, rfl, _, _, _, [], _, [], hW', trodAll_mk1 (shut_bool Try.underlying4 _), (trodAll_cons_mk (Below.trod laidOut (by kernel_rfl) (of_decide_eq_true (by kernel_rfl)) k0 bel lt0) trodAll_mk0), rfl, bel.frame _, fun h => by cases h⟩

theorem over : Rows.numSumsRow.holds Try.pinned (OpenSpec.ofChange Rows.numSumsSpec) :=
  OpenClaim.holds_of_wide 8 Try.f8 rfl rfl rfl rfl rfl rfl rfl ⟨rfl, rfl, rfl, rfl, rfl⟩ rfl rfl rfl rfl rfl (by kernel_rfl) Try.func8 (by kernel_rfl)
    (of_decide_eq_true (by kernel_rfl)) (by unfold Func.isWrapper; first | (rw [if_pos (by decide +kernel)]; kernel_rfl) | (rw [if_neg (by decide +kernel)]; exact ⟨rfl, rfl⟩))
    (fun os started H enc _ => lifted os started H enc)

/-- ████ THE STATEMENT ████ -/
theorem proved : Rows.NumSumsSaid := over
#print axioms proved
end Go.Proofs.Ytkngfhnjimdcjaa.numSums
