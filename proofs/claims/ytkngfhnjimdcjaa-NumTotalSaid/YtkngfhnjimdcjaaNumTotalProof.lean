/-
  The law NumTotal returns true at every input, and writes nothing. No condition.
-/
import Derived.Test.YtkngfhnjimdcjaaRows
import Derived.WalkKit
import Derived.ProofKit
import Derived.OpenShut
import Derived.WalkLawsBesides
import Derived.WalkSpells
import Derived.Test.YtkngfhnjimdcjaaScalar
namespace Go.Proofs.Ytkngfhnjimdcjaa.numTotal
open Go.ChangeShapes Go.WideShapes Go.ChangeAt Go.RowKit
set_option linter.unusedVariables false      -- a walk need not use every 'w<i>' (that an integer argument fits its kind)

theorem own : ownKnob Try.prog.godebug = none := by kernel_rfl

/-! ### STEP 1: THE WALK: the Go text returns true. 'Grown w w'': the world has at most new blocks (Derived/RowKit3.lean). Part the cases AHEAD of 'go_enter' where a test parts the walk; take each callee by a contract of your own. -/
theorem walk (a0 : Int) (a1 : Int) (a2 : Int) (w0 : (Lit.int .u64 a0).wf = true) (w1 : (Lit.int .u64 a1).wf = true) (w2 : (Lit.int .u64 a2).wf = true) (w : World) :
    Calls Try.prog 5 #[.int .u64 a0, .int .u64 a1, .int .u64 a2] w fun e w' => e = .returned (.bool true) ∧ Grown w w' := by
  have hc : U64 a0 := by unfold U64; simp [Lit.wf, IntKind.min, IntKind.max, IntKind.signed, IntKind.bits] at w0; omega
  have hd : U64 a1 := by unfold U64; simp [Lit.wf, IntKind.min, IntKind.max, IntKind.signed, IntKind.bits] at w1; omega
  have he : U64 a2 := by unfold U64; simp [Lit.wf, IntKind.min, IntKind.max, IntKind.signed, IntKind.bits] at w2; omega
  have e0 := Lib.hid hc
  have e1 := Lib.hid hd
  have e2 := Lib.hid he
  clear hc hd he w0 w1 w2
  refine gen fun R hR => ?_
  have C11 := fun w => c11 (canonN a0.toNat : Nat) w (U64.of _ (canon_lt _ e0.out.lt))
  have hcc : (((canonN a0.toNat : Nat) : Int)).toNat = canonN a0.toNat := by omega
  rw [hcc, canon_canon] at C11
  have D11 := Lib.hid C11
  have w3 : wrap64 (-orderN a1.toNat a0.toNat) = orderN a0.toNat a1.toNat := by
    have := order_sign a1.toNat a0.toNat
    rw [order_anti a0.toNat a1.toNat]; unfold wrap64; omega
  have D3 := Lib.hid w3
  clear C11 hcc w3
  go_enter Try.func5, Try.ntmps5
  go_wp2_with (first | (go_at_call 15; first | ((with_reducible refine (c15 a0 a1 _ e0.out e1.out).mono ?_); rintro e w' ⟨rfl, rfl⟩) | ((with_reducible refine (c15 a1 a0 _ e1.out e0.out).mono ?_); rintro e w' ⟨rfl, rfl⟩) | ((with_reducible refine (c15 a0 a0 _ e0.out e0.out).mono ?_); rintro e w' ⟨rfl, rfl⟩) | ((with_reducible refine (c15 a1 a2 _ e1.out e2.out).mono ?_); rintro e w' ⟨rfl, rfl⟩) | ((with_reducible refine (c15 a0 a2 _ e0.out e2.out).mono ?_); rintro e w' ⟨rfl, rfl⟩)) | (go_at_call 16; ((with_reducible refine (c16 _).mono ?_); rintro e w' ⟨rfl, rfl⟩)) | (go_at_call 11; first | ((with_reducible refine (c11 a0 _ e0.out).mono ?_); rintro e w' ⟨rfl, rfl⟩) | ((with_reducible refine (c11 a1 _ e1.out).mono ?_); rintro e w' ⟨rfl, rfl⟩) | ((with_reducible refine (D11.out _).mono ?_); rintro e w' ⟨rfl, rfl⟩)))
  all_goals
    go_tidy
    rw [D3.out] at *
    have g1 := order_sign a0.toNat a1.toNat
    have g2 := order_sign a1.toNat a2.toNat
    have g3 := order_sign a0.toNat a2.toNat
    have g4 := order_sign a0.toNat a0.toNat
    have g5 := key_canon _ _ e0.out.lt e1.out.lt
    have g6 : (orderN a0.toNat a1.toNat == 0) = (((canonN a0.toNat : Nat) : Int) == ((canonN a1.toNat : Nat) : Int)) := by
      rw [Bool.eq_iff_iff, beq_iff_eq, beq_iff_eq, g1.2.1, g5]; omega
    clear e0 e1 e2 D11 D3 g5
    first
      | exact ⟨rfl, Grown.refl _⟩
      | exact absurd g6 ‹_›
      | (exfalso; omega)

/-! ### THE ROW's STEP: WRITTEN OUT: LEAVE IT -/
set_option maxRecDepth 100000 in
theorem lifted (os : Os) (started : os.Started) (H : Type) (enc : TypeId × Value → H) :
    ReturnsInHanded {} Try.checked os 5 .any (Rows.numTotalSpec.pre6 enc Try.prog Try.f5 Rows.numTotalRow.domain false) (Rows.numTotalSpec.post enc Try.prog Try.f5 false true false false) := by
  refine returnsInHanded_of_change (C := Try.checked) own started (by kernel_rfl) Try.func5
    (ChangeSpec.witness6 (enc := enc) (C := Try.checked) false ⟨#[], #[.int .u64 0, .int .u64 0, .int .u64 0], []⟩ 8 (by kernel_rfl) (by kernel_rfl) (by kernel_rfl) (by kernel_rfl)) ?_
  intro W base args ds gs before hval0 hW hcnd _
  have hval : ∀ (j : Nat) t v, Try.f5.params[j]? = some t → args[j]? = some v → Value.okWide Try.prog W .any base t v := hval0
  have hW' := hW
  obtain ⟨p, q, hA0, hV, rfl, hfz, hnd⟩ := hW
  have hA : DataW.TrodAll enc Try.prog W 0 (fun _ => true) true Try.f5.params.toList args.toList ds p := hA0
  rw [Try.params5] at hA hval
  obtain ⟨v0, vs0, d0, ds0, p0, q0, hargs, rfl, rfl, h0, r0⟩ := trodAll_cons hA
  obtain ⟨v1, vs1, d1, ds1, p1, q1, rfl, rfl, rfl, h1, r1⟩ := trodAll_cons r0
  obtain ⟨v2, vs2, d2, ds2, p2, q2, rfl, rfl, rfl, h2, r2⟩ := trodAll_cons r1
  obtain ⟨rfl, rfl, rfl⟩ := trodAll_nil r2
  obtain rfl : args = #[v0, v1, v2] := by cases args; simp_all
  obtain ⟨rfl, rfl⟩ := trodVars_none hV
  obtain ⟨a0, rfl, rfl, rfl, w0⟩ := open_int Try.underlying22 (hval 0 22 v0 rfl rfl) h0
  obtain ⟨a1, rfl, rfl, rfl, w1⟩ := open_int Try.underlying22 (hval 1 22 v1 rfl rfl) h1
  obtain ⟨a2, rfl, rfl, rfl, w2⟩ := open_int Try.underlying22 (hval 2 22 v2 rfl rfl) h2
  clear hA0 hval0
  simp only [List.append_nil] at hW'
  refine (walk a0 a1 a2 w0 w1 w2 W).mono fun e W' ⟨he, hg⟩ => ?_
  subst he
  exact ⟨_, rfl, post_of_same (pa := []) (pv := []) hW' (fun _ _ _ => (trodAll_cons_mk (shut_bool Try.underlying4 _) trodAll_mk0)) (fun sp _ => (trodAll_cons_mk (shut_int Try.underlying22 w0) (trodAll_cons_mk (shut_int Try.underlying22 w1) (trodAll_cons_mk (shut_int Try.underlying22 w2) trodAll_mk0)))) (fun _ _ => rfl) rfl
    (hg.frame _) hg.2.1 (ok_one (by kernel_rfl) rfl (okWide_bool_mk Try.underlying4 _))⟩

theorem over : Rows.numTotalRow.holds Try.pinned (OpenSpec.ofChange Rows.numTotalSpec) :=
  OpenClaim.holds_of_wide 5 Try.f5 rfl rfl rfl rfl rfl rfl rfl ⟨rfl, rfl, rfl, rfl, rfl⟩ rfl rfl rfl rfl rfl (by kernel_rfl) Try.func5 (by kernel_rfl)
    (of_decide_eq_true (by kernel_rfl)) (by unfold Func.isWrapper; first | (rw [if_pos (by decide +kernel)]; kernel_rfl) | (rw [if_neg (by decide +kernel)]; exact ⟨rfl, rfl⟩))
    (fun os started H enc _ => lifted os started H enc)

/-- ████ THE STATEMENT ████ -/
theorem proved : Rows.NumTotalSaid :=
  over
#print axioms proved
end Go.Proofs.Ytkngfhnjimdcjaa.numTotal
