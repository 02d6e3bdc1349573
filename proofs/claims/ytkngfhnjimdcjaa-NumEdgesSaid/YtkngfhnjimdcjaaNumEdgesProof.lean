/-
  The law NumEdges returns true at every input, and writes nothing that was there. No condition.
-/
import Derived.Test.YtkngfhnjimdcjaaRows
import Derived.WalkKit
import Derived.ProofKit
import Derived.OpenShut
import Derived.ShutString
import Derived.ChangeOld
import Derived.Below
import Derived.WalkLawsBesides
import Derived.WalkSpells
import Derived.WalkSmall
import Derived.Test.YtkngfhnjimdcjaaSums
import Derived.Test.YtkngfhnjimdcjaaInf
namespace Go.Proofs.Ytkngfhnjimdcjaa.numEdges
open Go.ChangeShapes Go.WideShapes Go.ChangeAt Go.RowKit
open Go.ChangeMaps (open_string shut_string)
set_option linter.unusedVariables false

theorem own : ownKnob Try.prog.godebug = none := by kernel_rfl
theorem laidOut : laidOutB Try.prog = true := by kernel_rfl

/-- WHAT THE WALK IS TOLD OF A SLICE OF INTEGERS THAT CAME IN: it is nil; or it leads to a row of 'cap' cells, the numbers 'zs' (the first 'len' are its elements, the rest its spare room), each fitting its kind. -/
def IsRow (k : IntKind) (w : World) (a : Option Addr) (len cap : Nat) (zs : List Int) : Prop :=
  (a = none ∧ len = 0 ∧ cap = 0 ∧ zs = []) ∨
  ∃ x, a = some x ∧ len ≤ cap ∧ cap ≤ maxLen ∧ zs.length = cap ∧ (∀ i, i < zs.length → w.cell? (x.add i) = some (.int k (zs.getD i 0))) ∧ ∀ n ∈ zs, (Lit.int k n).wf = true

theorem reads_of {w : World} {a : Option Addr} {len cap : Nat} {zs : List Int} (h : IsRow .u64 w a len cap zs) :
    ∃ l : List Nat, l.length = len ∧ Reads w a l cap := by
  rcases h with ⟨rfl, rfl, rfl, rfl⟩ | ⟨x, rfl, h1, h2, h3, h4, h5⟩
  · exact ⟨[], rfl, by simp, by simp [maxLen], by simp, by simp⟩
  · refine ⟨(zs.take len).map Int.toNat, by simp; omega, ?_, h2, ?_, ?_⟩
    · simp; omega
    · intro y hy
      simp only [List.mem_map] at hy
      obtain ⟨z, hz, rfl⟩ := hy
      have := h5 z (List.mem_of_mem_take hz)
      simp [Lit.wf, IntKind.min, IntKind.max, IntKind.signed, IntKind.bits] at this
      omega
    · intro hl
      have hl' : 0 < zs.length := by simp at hl; omega
      obtain ⟨b, o, rfl, hc⟩ := ints_at h4 hl'
      refine ⟨b, o, rfl, fun i hi => ?_⟩
      have hi' : i < zs.length ∧ i < len := by simp at hi; omega
      rw [hc i hi'.1]
      have hw := h5 zs[i] (List.getElem_mem hi'.1)
      simp [Lit.wf, IntKind.min, IntKind.max, IntKind.signed, IntKind.bits] at hw
      simp [hi'.1, hi'.2]
      omega

/-- What has been seen of the kinds of the first k numbers. -/
def seen (l : List Nat) (k : Nat) (j : Int) : Value := .bool (anyK (l.take k) j)
def hasW (w : World) (l : List Nat) (k : Nat) : World := w.alloc (.cells #[seen l k 0, seen l k 1, seen l k 2, seen l k 3, seen l k 4, seen l k 5, seen l k 6] 31)
def EdgeRel (l : List Nat) (w : World) (i : Value) (wr : World) : Prop := ∃ k : Nat, k ≤ l.length ∧ i = .int .i64 k ∧ wr = hasW w l k
theorem seen_next {l : List Nat} {k : Nat} (h : k < l.length) (j : Int) : seen l (k + 1) j = .bool (anyK (l.take k) j || decide (kindN l[k] = j)) := by
  unfold seen anyK
  rw [List.take_succ_eq_append_getElem h, List.any_append]; simp

/-! ### STEP 1: THE WALK: the Go text returns true, AND WRITES NOTHING THAT WAS THERE: 'Below w.heap.size w w'' (Derived/Below.lean: '.refl', '.alloc', '.drew', '.setCell' at a new block, '.trans'). Open each 'IsRow' by 'rcases' AHEAD of 'go_enter'; part every test ahead of the walk. -/
set_option maxHeartbeats 1000000 in
theorem walk (a0 : Option Addr) (len0 cap0 : Nat) (z0 : List Int) (w : World) (w0 : IsRow .u64 w a0 len0 cap0 z0) :
    Calls Try.prog 6 #[.slice a0 len0 cap0] w fun e w' => e = .returned (.bool true) ∧ Below w.heap.size w w' := by
  obtain ⟨l, rfl, h⟩ := reads_of w0
  clear w0
  have H := Lib.hid h
  obtain ⟨h1, h2, h3, h4⟩ := h
  unfold maxLen at h2
  have H3 := Lib.hid h3
  have H4 := Lib.hid h4
  clear h3 h4
  refine gen fun R hR => ?_
  by_cases hlen : 100 < l.length
  · go_enter Try.func6, Try.ntmps6
    go_wp2_with (go_at_call 16; ((with_reducible refine (c16 _).mono ?_); rintro e w' ⟨rfl, rfl⟩))
    all_goals exact ⟨rfl, Below.refl _ _⟩
  · have HR := Lib.hid hR
    clear hR
    go_enter Try.func6, Try.ntmps6
    go_wp2_with (go_at_call 16; ((with_reducible refine (c16 _).mono ?_); rintro e w' ⟨rfl, rfl⟩))
    go_loopw [4] (EdgeRel l w) (fun i _ => l.length - (intOf i).toNat)
    case atStart => exact ⟨0, by omega, rfl, rfl⟩
    case round =>
      obtain ⟨k, hk, rfl, hw⟩ := hrel
      by_cases hlt : k < l.length
      · obtain ⟨b, o, ha, hc⟩ := H4.out (by omega)
        have hb : b < w.heap.size := World.block_lt_of_cell? w _ (hc k hlt)
        have hcell := hc k hlt
        have hx := Lib.hid (H3.out l[k] (List.getElem_mem hlt))
        have C := fun w => c9 (l[k] : Nat) w (U64.of _ hx.out)
        have hkk := kind_range l[k]
        have S := seen_next hlt
        rw [Int.toNat_natCast] at C
        clear hc
        subst ha
        subst hw
        rcases hkk with hkk | hkk | hkk | hkk | hkk | hkk | hkk
        all_goals
          rw [hkk] at C
          simp only [hkk] at S
          have D := Lib.hid C
          have HS := Lib.hid S
          clear C S hkk
          unfold hasW
          go_wp2_with (go_at_call 9; ((with_reducible refine (D.out _).mono ?_); rintro e w' ⟨rfl, rfl⟩))
          all_goals exact ⟨⟨k + 1, by omega, rfl, by unfold hasW; simp only [HS.out]; simp [seen]⟩, by simp [intOf]; omega⟩
      · obtain rfl : k = l.length := by omega
        have S : ∀ j, seen l l.length j = .bool (anyK l j) := by intro j; unfold seen; rw [List.take_length]
        unfold hasW at hw
        simp only [S] at hw
        have hR := HR.out
        have hlt := fun x hx => H3.out x hx
        have C18 := fun w h => c18 l a0 cap0 w h
        have hS : canonN (sumN l) < 18446744073709551616 := canon_lt _ (known_sum l hlt).1
        have C9 := fun w => c9 ((canonN (sumN l) : Nat) : Int) w (U64.of _ hS)
        rw [Int.toNat_natCast] at C9
        have E1 := edges_nan l hlt
        have E2 := edges_plain l
        have E3 := edges_inf l hlt
        have E4 := canon_sum_nan (sumN l)
        have HB := Lib.hid (Below.refl w.heap.size w)
        clear S H3 H4 HR hlt hS hk hlen
        have Hr : Reads wr a0 l cap0 := by
          obtain ⟨q1, q2, q3, q4⟩ := H.out
          refine ⟨q1, q2, q3, fun hp => ?_⟩
          obtain ⟨b, o, hb, hc⟩ := q4 hp
          refine ⟨b, o, hb, fun i hi => ?_⟩
          have hbl : b < w.heap.size := World.block_lt_of_cell? w _ (hc i hi)
          rw [hw, ← hc i hi]
          exact World.cell?_of_block (a := ⟨b, o + i, none⟩) (Below.heap_alloc w _ b hbl)
        have HRd := Lib.hid Hr
        clear Hr H
        generalize canonN (sumN l) = z at *
        have E5 : kindN z = 0 → ((z : Nat) : Int) = 9221120237041090560 := fun h => by rw [E4 h]; rfl
        clear E4
        generalize ((z : Nat) : Int) = zi at *
        generalize kindN z = kz at *
        generalize anyK l 0 = b0 at *
        generalize anyK l 1 = b1 at *
        generalize anyK l 6 = b6 at *
        subst hw
        cases b0 <;> cases b1 <;> cases b6
        all_goals
          simp at E1 E2 E3
          first
            | (have e6 := E5 E1; subst e6; subst E1; clear E2 E3 E5
               have D18 := Lib.hid C18
               have D9 := Lib.hid C9
               clear C18 C9
               go_wp2_with (first | (go_at_call 18; first | ((with_reducible refine (D18.out _ HRd.out).mono ?_); rintro e w' ⟨rfl, q1, rfl⟩) | ((with_reducible refine (D18.out _ (HRd.out.drewN _)).mono ?_); rintro e w' ⟨rfl, q2, rfl⟩)) | (go_at_call 9; (with_reducible refine (D9.out _).mono ?_); rintro e w' ⟨rfl, rfl⟩))
               all_goals first | exact ⟨rfl, below_drewN (HB.out.alloc (Nat.le_refl _) _) _⟩ | exact below_drewN (HB.out.alloc (Nat.le_refl _) _) _)
            | skip
        · clear E1 E3 E5
          have D18 := Lib.hid C18
          have D9 := Lib.hid C9
          clear C18 C9
          by_cases hn : l.length ≤ 1
          · have hq : (kz != 0) = true := by rw [bne_iff_ne]; exact E2 hn
            clear E2
            go_wp2_with (first | (go_at_call 18; first | ((with_reducible refine (D18.out _ HRd.out).mono ?_); rintro e w' ⟨rfl, q1, rfl⟩) | ((with_reducible refine (D18.out _ (HRd.out.drewN _)).mono ?_); rintro e w' ⟨rfl, q2, rfl⟩)) | (go_at_call 9; (with_reducible refine (D9.out _).mono ?_); rintro e w' ⟨rfl, rfl⟩))
            all_goals first | exact ⟨rfl, below_drewN (HB.out.alloc (Nat.le_refl _) _) _⟩ | exact below_drewN (HB.out.alloc (Nat.le_refl _) _) _
          · clear E2
            go_wp2_with (first | (go_at_call 18; first | ((with_reducible refine (D18.out _ HRd.out).mono ?_); rintro e w' ⟨rfl, q1, rfl⟩) | ((with_reducible refine (D18.out _ (HRd.out.drewN _)).mono ?_); rintro e w' ⟨rfl, q2, rfl⟩)) | (go_at_call 9; (with_reducible refine (D9.out _).mono ?_); rintro e w' ⟨rfl, rfl⟩))
            all_goals first | exact ⟨rfl, below_drewN (HB.out.alloc (Nat.le_refl _) _) _⟩ | exact below_drewN (HB.out.alloc (Nat.le_refl _) _) _
        all_goals
          clear E1 E2 E5
          by_cases hn : l.length ≤ 2
          · have e6 := E3 hn
            subst e6
            have D18 := Lib.hid C18
            have D9 := Lib.hid C9
            clear C18 C9 E3
            go_wp2_with (first | (go_at_call 18; first | ((with_reducible refine (D18.out _ HRd.out).mono ?_); rintro e w' ⟨rfl, q1, rfl⟩) | ((with_reducible refine (D18.out _ (HRd.out.drewN _)).mono ?_); rintro e w' ⟨rfl, q2, rfl⟩)) | (go_at_call 9; (with_reducible refine (D9.out _).mono ?_); rintro e w' ⟨rfl, rfl⟩))
            all_goals first | exact ⟨rfl, below_drewN (HB.out.alloc (Nat.le_refl _) _) _⟩ | exact below_drewN (HB.out.alloc (Nat.le_refl _) _) _
          · have D18 := Lib.hid C18
            have D9 := Lib.hid C9
            clear C18 C9 E3
            go_wp2_with (first | (go_at_call 18; first | ((with_reducible refine (D18.out _ HRd.out).mono ?_); rintro e w' ⟨rfl, q1, rfl⟩) | ((with_reducible refine (D18.out _ (HRd.out.drewN _)).mono ?_); rintro e w' ⟨rfl, q2, rfl⟩)) | (go_at_call 9; (with_reducible refine (D9.out _).mono ?_); rintro e w' ⟨rfl, rfl⟩))
            all_goals first | exact ⟨rfl, below_drewN (HB.out.alloc (Nat.le_refl _) _) _⟩ | exact below_drewN (HB.out.alloc (Nat.le_refl _) _) _

/-! ### THE ROW's STEP: WRITTEN OUT: LEAVE IT -/
set_option maxRecDepth 100000 in
theorem lifted (os : Os) (started : os.Started) (H : Type) (enc : TypeId × Value → H) :
    ReturnsInHanded {} Try.checked os 6 .any (Rows.numEdgesSpec.pre6 enc Try.prog Try.f6 Rows.numEdgesRow.domain false) (Rows.numEdgesSpec.post enc Try.prog Try.f6 false true false false) := by
  refine returnsInHanded_of_change (C := Try.checked) own started (by kernel_rfl) Try.func6
    (ChangeSpec.witness6 (enc := enc) (C := Try.checked) false ⟨#[], #[.slice none 0 0], []⟩ 8 (by kernel_rfl) (by kernel_rfl) (by kernel_rfl) (by kernel_rfl)) ?_
  intro W base args ds gs before hval0 hW hcnd _
  have hval : ∀ (j : Nat) t v, Try.f6.params[j]? = some t → args[j]? = some v → Value.okWide Try.prog W .any base t v := hval0
  have hW' := hW
  obtain ⟨p, q, hA0, hV, rfl, hfz, hnd⟩ := hW
  have hA : DataW.TrodAll enc Try.prog W 0 (fun _ => true) true Try.f6.params.toList args.toList ds p := hA0
  rw [Try.params6] at hA hval
  obtain ⟨v0, vs0, d0, ds0, p0, q0, hargs, rfl, rfl, h0, r0⟩ := trodAll_cons hA
  obtain ⟨rfl, rfl, rfl⟩ := trodAll_nil r0
  obtain rfl : args = #[v0] := by cases args; simp_all
  obtain ⟨rfl, rfl⟩ := trodVars_none hV
  obtain ⟨a0, len0, cap0, rfl⟩ := okWide_slice Try.underlying30 (hval 0 30 v0 rfl rfl)
  have k0 := h0
  have lt0 : ∀ x ∈ p0, x.block < W.heap.size := by obtain ⟨m, hm⟩ := k0; exact DataW.trod_lt m _ _ _ hm
  obtain ⟨z0, w0⟩ : ∃ zs, IsRow .u64 W a0 len0 cap0 zs := by
    obtain ⟨fuel, hf⟩ := h0
    rcases open_ints Try.underlying30 Try.underlying22 (by kernel_rfl) hf with ⟨hcs, _⟩ | ⟨x, l, c, zs, hcs, _, hl, hm, hz, _, hcell, hwz⟩
    · simp [Value.cells] at hcs
      obtain ⟨rfl, rfl, rfl⟩ := hcs
      exact ⟨[], .inl ⟨rfl, rfl, rfl, rfl⟩⟩
    · simp [Value.cells] at hcs
      obtain ⟨rfl, rfl, rfl⟩ := hcs
      exact ⟨zs, .inr ⟨_, rfl, hl, hm, by simpa using hz, hcell, hwz⟩⟩
  clear hA0 hval0
  refine (walk a0 len0 cap0 z0 W w0).mono fun e W' ⟨he, bel⟩ => ?_
  subst he
  exact ⟨_, rfl, _, _, _, [], _, [], hW', trodAll_mk1 (shut_bool Try.underlying4 _), (trodAll_cons_mk (Below.trod laidOut (by kernel_rfl) (of_decide_eq_true (by kernel_rfl)) k0 bel lt0) trodAll_mk0), rfl, bel.frame _, fun h => by cases h⟩

theorem over : Rows.numEdgesRow.holds Try.pinned (OpenSpec.ofChange Rows.numEdgesSpec) :=
  OpenClaim.holds_of_wide 6 Try.f6 rfl rfl rfl rfl rfl rfl rfl ⟨rfl, rfl, rfl, rfl, rfl⟩ rfl rfl rfl rfl rfl (by kernel_rfl) Try.func6 (by kernel_rfl)
    (of_decide_eq_true (by kernel_rfl)) (by unfold Func.isWrapper; first | (rw [if_pos (by decide +kernel)]; kernel_rfl) | (rw [if_neg (by decide +kernel)]; exact ⟨rfl, rfl⟩))
    (fun os started H enc _ => lifted os started H enc)

/-- ████ THE STATEMENT ████ -/
theorem proved : Rows.NumEdgesSaid := over
#print axioms proved
end Go.Proofs.Ytkngfhnjimdcjaa.numEdges
