/-
  The law NumZeros returns true at every input, and writes nothing that was there. No condition.
-/
import Derived.Test.YtkngfhnjimdcjaaRows
import Derived.WalkKit
import Derived.ProofKit
import Derived.OpenShut
import Derived.ShutString
import Derived.ChangeOld
import Derived.Below
import Derived.Deep.Grids
import Derived.Test.YtkngfhnjimdcjaaKit
import Derived.Lib.Hide
import Derived.WalkLawsBesides
import Derived.WalkSpells
import Derived.WalkSmall
import Derived.Test.YtkngfhnjimdcjaaSums
import Derived.Test.YtkngfhnjimdcjaaInf
namespace Go.Proofs.Ytkngfhnjimdcjaa.numZeros
open Go.ChangeShapes Go.WideShapes Go.ChangeAt Go.RowKit
open Go.ChangeMaps (open_string shut_string)
set_option linter.unusedVariables false

theorem own : ownKnob Try.prog.godebug = none := by kernel_rfl
theorem laidOut : laidOutB Try.prog = true := by kernel_rfl

/-- A slice of bools that came in. -/
def IsBools (w : World) (a : Option Addr) (len cap : Nat) (zs : List Bool) : Prop :=
  (a = none ∧ len = 0 ∧ cap = 0 ∧ zs = []) ∨
  (len = zs.length ∧ len ≤ cap ∧ cap ≤ maxLen ∧ (0 < len → ∃ b o, a = some ⟨b, o, none⟩ ∧ b < w.heap.size ∧ ∀ i, i < zs.length → w.cell? ⟨b, o + i, none⟩ = some (.bool (zs[i]?.getD false))))
theorem isBools_of {w : World} {x : Addr} {len cap : Nat} {B : Nat → Bool} (hl : len ≤ cap) (hm : cap ≤ maxLen) (h : ∀ i, i < cap → w.cell? (x.add i) = some (.bool (B i))) :
    IsBools w (some x) len cap ((List.range len).map B) := by
  refine .inr ⟨by simp, hl, hm, fun hp => ?_⟩
  obtain ⟨b, o, spot⟩ := x
  have hspot : spot = none := by simpa [Addr.add] using World.cell?_spot (h 0 (by omega))
  subst hspot
  have h' : ∀ i, i < cap → w.cell? ⟨b, o + i, none⟩ = some (.bool (B i)) := fun i hi => by rw [← Go.WideShapes.add_plain]; exact h i hi
  refine ⟨b, o, rfl, World.block_lt_of_cell? w _ (h' 0 (by omega)), fun i hi => ?_⟩
  simp at hi
  rw [h' i (by omega)]
  simp [hi]

def zv (s : Bool) : Value := .int .u64 ((zw s : Nat) : Int)
def ZRel (zs : List Bool) (w : World) (v all i : Value) (wr : World) : Prop :=
  ∃ k : Nat, k ≤ zs.length ∧ i = .int .i64 k ∧ all = .bool (decide (0 < zs.length) && (zs.take k).all id) ∧
    wr.ownsRow w.heap.size 22 1 v k ((zs.take k).map zv) ∧ Below w.heap.size w wr
theorem ZRel.next {zs : List Bool} {w wr wr' : World} {v v' : Value} {k : Nat} {all u : Bool} (hk : k < zs.length) (hu : zs[k] = u)
    (hb : Below w.heap.size w wr) (hv : wr.ownsRow w.heap.size 22 1 v k ((zs.take k).map zv))
    (h : wr'.ownsRow w.heap.size 22 1 v' (k + 1) ((zs.take k).map zv ++ [zv u])) (hg : wr.grownBy wr' v.ownBlock) (hall : (decide (0 < zs.length) && (zs.take k).all id) = all) :
    ZRel zs w v' (.bool (all && u)) (.int .i64 ((k : Int) + 1)) wr' := by
  subst hu
  refine ⟨k + 1, by omega, rfl, ?_, ?_, ?_⟩
  · rw [← hall, List.take_succ_eq_append_getElem hk, List.all_append]; simp [Bool.and_assoc]
  · rw [List.take_succ_eq_append_getElem hk, List.map_append]; exact h
  · exact hb.grown hg (by have := hb.size; omega) (fun j hj => ((hv.lt j hj)).1)
theorem reads_own {zs : List Bool} {w : World} {base n : Nat} {v : Value} (h : w.ownsRow base 22 1 v n (zs.map zv)) (hn : n = zs.length) (hl : n ≤ 100) :
    ∃ a c, v = .slice a (zs.map zw).length c ∧ Reads w a (zs.map zw) c := by
  have hz : ∀ x ∈ zs.map zw, x < 18446744073709551616 := by
    intro x hx
    simp at hx
    rcases hx with ⟨_, rfl⟩ | ⟨_, rfl⟩ <;> decide
  obtain ⟨h1, h2⟩ := h
  rcases h2 with ⟨rfl, rfl⟩ | ⟨g, cap, cur, rfl, hb, hg, hnc, hcm, hcs, htake⟩
  · have : zs = [] := List.eq_nil_of_length_eq_zero hn.symm
    subst this
    exact ⟨none, 0, rfl, by simp, by simp [maxLen], by simp, by simp⟩
  · refine ⟨some ⟨g, 0, none⟩, cap, by simp [hn], by simp; omega, hcm, hz, fun hp => ⟨g, 0, rfl, fun i hi => ?_⟩⟩
    simp at hi
    have hc : cur.toList[i]? = some (zv zs[i]) := by
      have : ((cur.toList).take (n * 1))[i]? = (zs.map zv)[i]? := by rw [htake]
      rw [List.getElem?_take, if_pos (by omega)] at this
      rw [this]; simp [hi]
    rw [Nat.zero_add, cell_of_row w g i cur 22 (0, 0) hg]
    rw [Array.getElem?_toList] at hc
    rw [hc]
    simp [zv, hi]

theorem info22 : (Try.prog.info? 22).map (fun i => (i.zero, i.size, i.bytes)) = some (some (.int .u64 0), 1, 8) := by kernel_rfl

/-! ### STEP 1: THE WALK -/
set_option maxHeartbeats 1000000 in
theorem walk (a0 : Option Addr) (len0 cap0 : Nat) (z0 : List Bool) (w : World) (w0 : IsBools w a0 len0 cap0 z0) :
    Calls Try.prog 7 #[.slice a0 len0 cap0] w fun e w' => e = .returned (.bool true) ∧ Below w.heap.size w w' := by
  obtain ⟨i0, hi0, hz0, hz1, hz2⟩ := info_parts info22
  have h0 : len0 = z0.length ∧ len0 ≤ cap0 ∧ cap0 ≤ 9223372036854775807 := by
    rcases w0 with ⟨rfl, rfl, rfl, rfl⟩ | ⟨h1, h2, h3, _⟩
    · simp
    · unfold maxLen at h3; exact ⟨h1, h2, by omega⟩
  obtain ⟨rfl, h1, h2⟩ := h0
  have h4 : 0 < z0.length → ∃ b o, a0 = some ⟨b, o, none⟩ ∧ b < w.heap.size ∧ ∀ i, i < z0.length → w.cell? ⟨b, o + i, none⟩ = some (.bool (z0[i]?.getD false)) := by
    rcases w0 with ⟨rfl, _, rfl, rfl⟩ | ⟨_, _, _, h4⟩
    · intro h; simp at h
    · exact h4
  have H4 := Lib.hid h4
  clear h4 w0
  refine gen fun R hR => ?_
  by_cases hlen : 100 < z0.length
  · go_enter Try.func7, Try.ntmps7
    go_wp2_with (go_at_call 16; ((with_reducible refine (c16 _).mono ?_); rintro e w' ⟨rfl, rfl⟩))
    all_goals exact ⟨rfl, Below.refl _ _⟩
  · have HR := Lib.hid hR
    have HI := Lib.hid hi0
    have HZ := Lib.hid hz0
    have HZ1 := Lib.hid hz1
    have HZ2 := Lib.hid hz2
    clear hR hi0 hz0 hz1 hz2
    go_enter Try.func7, Try.ntmps7
    go_wp2_with (go_at_call 16; ((with_reducible refine (c16 _).mono ?_); rintro e w' ⟨rfl, rfl⟩))
    go_loopw [3, 4, 5] (ZRel z0 w) (fun _ _ i _ => z0.length - (intOf i).toNat)
    case atStart => exact ⟨0, by omega, rfl, by simp, World.ownsRow_nil _ _ _ _, Below.refl _ _⟩
    case round =>
      obtain ⟨k, hk, rfl, rfl, hown, hbel⟩ := hrel
      have HO := Lib.hid hown
      have HB := Lib.hid hbel
      by_cases hlt : k < z0.length
      · clear hown
        obtain ⟨b, o, ha, hbs, hc⟩ := H4.out (by omega)
        subst ha
        have hcell : wr.cell? ⟨b, o + k, none⟩ = some (.bool (z0[k]?.getD false)) := by rw [hbel.cell (p := ⟨b, o + k, none⟩) hbs]; exact hc k hlt
        have hbase := hbel.size
        clear hc hbel
        have hg : z0[k]?.getD false = z0[k] := by simp [hlt]
        rw [hg] at hcell
        generalize hzk : z0[k] = zk at *
        have HK := Lib.hid hzk
        clear hzk hg
        have HAL : RowKit.Hid (∃ all : Bool, all = (decide (0 < z0.length) && (z0.take k).all id)) := ⟨_, rfl⟩
        generalize hall : (decide (0 < z0.length) && (z0.take k).all id) = all at *
        have HA := Lib.hid hall
        clear hall HAL
        cases zk <;> cases all
        all_goals
          go_wp2_with (at_builtin; refine append_new _ rfl (.tmp 36) (.tmp 38) 30 rfl w.heap.size 22 (.int .u64 0) 1 8 Try.underlying30 info22 rfl (by decide) _ rfl (by simp [Value.oneCell']) u3 k _ rfl HO.out rfl (by unfold maxLen; omega) (by omega) (by omega) ?_; intro v' w1 hown1 hg1 hn1)
          all_goals exact ⟨ZRel.next hlt HK.out HB.out HO.out hown1 hg1 HA.out, by simp [intOf]; omega⟩
      · obtain rfl : k = z0.length := by omega
        have hR := HR.out
        rw [List.take_length] at *
        obtain ⟨a1, c1, hv, hrd⟩ := reads_own hown rfl (by omega)
        have hml : (z0.map zw).length = z0.length := by simp
        rw [hml] at hv
        have C : ∀ w, Reads w a1 (z0.map zw) c1 → Calls Try.prog 18 #[.slice a1 z0.length c1] w fun e w' =>
            e = .returned (.int .u64 (if (decide (0 < z0.length) && z0.all id) then 9223372036854775808 else 0)) ∧ ∃ n, w' = w.drewN n := by
          intro w h
          have := c18 (z0.map zw) a1 c1 w h
          rw [sum_zero, hml] at this
          refine this.mono fun e w' ⟨he, hw⟩ => ⟨he.trans ?_, hw⟩
          cases (decide (0 < z0.length) && z0.all id) <;> rfl
        generalize (decide (0 < z0.length) && z0.all id) = b at *
        have HRd := Lib.hid hrd
        subst hv
        cases b <;> simp only [if_true, if_false, Bool.false_eq_true] at C
        all_goals
          have D := Lib.hid C
          clear C hrd hown hbel HO hml
          go_wp2_with (go_at_call 18; (with_reducible refine (D.out _ HRd.out).mono ?_); rintro e w' ⟨rfl, q1, rfl⟩)
          all_goals exact ⟨rfl, below_drewN HB.out _⟩

/-! ### THE ROW's STEP: WRITTEN OUT: LEAVE IT -/
set_option maxRecDepth 100000 in
theorem lifted (os : Os) (started : os.Started) (H : Type) (enc : TypeId × Value → H) :
    ReturnsInHanded {} Try.checked os 7 .any (Rows.numZerosSpec.pre6 enc Try.prog Try.f7 Rows.numZerosRow.domain false) (Rows.numZerosSpec.post enc Try.prog Try.f7 false true false false) := by
  refine returnsInHanded_of_change (C := Try.checked) own started (by kernel_rfl) Try.func7
    (ChangeSpec.witness6 (enc := enc) (C := Try.checked) false ⟨#[], #[.slice none 0 0], []⟩ 8 (by kernel_rfl) (by kernel_rfl) (by kernel_rfl) (by kernel_rfl)) ?_
  intro W base args ds gs before hval0 hW hcnd _
  have hval : ∀ (j : Nat) t v, Try.f7.params[j]? = some t → args[j]? = some v → Value.okWide Try.prog W .any base t v := hval0
  have hW' := hW
  obtain ⟨p, q, hA0, hV, rfl, hfz, hnd⟩ := hW
  have hA : DataW.TrodAll enc Try.prog W 0 (fun _ => true) true Try.f7.params.toList args.toList ds p := hA0
  rw [Try.params7] at hA hval
  obtain ⟨v0, vs0, d0, ds0, p0, q0, hargs, rfl, rfl, h0, r0⟩ := trodAll_cons hA
  obtain ⟨rfl, rfl, rfl⟩ := trodAll_nil r0
  obtain rfl : args = #[v0] := by cases args; simp_all
  obtain ⟨rfl, rfl⟩ := trodVars_none hV
  obtain ⟨a0, len0, cap0, rfl⟩ := okWide_slice Try.underlying34 (hval 0 34 v0 rfl rfl)
  have k0 := h0
  have lt0 : ∀ x ∈ p0, x.block < W.heap.size := by obtain ⟨m, hm⟩ := k0; exact DataW.trod_lt m _ _ _ hm
  obtain ⟨z0, w0⟩ : ∃ zs, IsBools W a0 len0 cap0 zs := by
    obtain ⟨fuel, hf⟩ := h0
    rcases Go.Deep.open_bools Try.underlying34 Try.underlying4 (by kernel_rfl) hf with ⟨hcs, _⟩ | ⟨x, l, c, B, hcs, _, hl, hm, _, hcell⟩
    · simp [Value.cells] at hcs
      obtain ⟨rfl, rfl, rfl⟩ := hcs
      exact ⟨[], .inl ⟨rfl, rfl, rfl, rfl⟩⟩
    · simp [Value.cells] at hcs
      obtain ⟨rfl, rfl, rfl⟩ := hcs
      exact ⟨(List.range len0).map B, isBools_of hl hm hcell⟩
  clear hA0 hval0
  refine (walk a0 len0 cap0 z0 W w0).mono fun e W' ⟨he, bel⟩ => ?_
  subst he
  exact ⟨_, rfl, _, _, _, [], _, [], hW', trodAll_mk1 (shut_bool Try.underlying4 _), (trodAll_cons_mk (Below.trod laidOut (by kernel_rfl) (of_decide_eq_true (by kernel_rfl)) k0 bel lt0) trodAll_mk0), rfl, bel.frame _, fun h => by cases h⟩

theorem over : Rows.numZerosRow.holds Try.pinned (OpenSpec.ofChange Rows.numZerosSpec) :=
  OpenClaim.holds_of_wide 7 Try.f7 rfl rfl rfl rfl rfl rfl rfl ⟨rfl, rfl, rfl, rfl, rfl⟩ rfl rfl rfl rfl rfl (by kernel_rfl) Try.func7 (by kernel_rfl)
    (of_decide_eq_true (by kernel_rfl)) (by unfold Func.isWrapper; first | (rw [if_pos (by decide +kernel)]; kernel_rfl) | (rw [if_neg (by decide +kernel)]; exact ⟨rfl, rfl⟩))
    (fun os started H enc _ => lifted os started H enc)

/-- ████ THE STATEMENT ████ -/
theorem proved : Rows.NumZerosSaid := over
#print axioms proved
end Go.Proofs.Ytkngfhnjimdcjaa.numZeros
