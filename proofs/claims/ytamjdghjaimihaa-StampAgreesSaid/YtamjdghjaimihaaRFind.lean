/- The reference: where one waits; groups that may be; the own stamp. Conditions: each law's own. -/
import Derived.Test.YtamjdghjaimihaaROrder
namespace Go.Proofs.Ytamjdghjaimihaa
open Go.ChangeShapes Go.WideShapes Go.ChangeAt Go.RowKit

def RFindEnd (L : List RefO) (id : IdD) (w : World) (e : Ending) (w' : World) : Prop :=
  ∃ n : Int, e = .returned (.int .i64 n) ∧ Below w.heap.size w w' ∧ ((n = -1 ∧ ∀ y ∈ L, y.1.id ≠ id) ∨ ∃ (k : Nat) (y : RefO), n = (k : Int) ∧ L[k]? = some y ∧ y.1.id = id)
section
variable {w : World} {x : Nat} {g : Int} {S : QS} {L : List RefO} {lv : Value} {B : Nat}
theorem drewN_below (w : World) (n : Nat) : Below w.heap.size w (w.drewN n) := ⟨rfl, rfl, rfl, Nat.le_refl _, fun _ _ => rfl⟩
set_option maxHeartbeats 4000000 in
set_option maxRecDepth 100000 in
theorem c42 (h : RefAt w x g S L lv B) (hl : L.length ≤ 1000) (id : IdD) : Calls Try.prog 42 #[.pointer (some ⟨x, 0, none⟩), .agg #[.int .i64 id.s, .int .i64 id.q]] w (RFindEnd L id w) := by
  refine gen (S := RFindEnd L id w) fun R hR => ?_
  have hb0 : Below w.heap.size w (w.alloc (.cells #[.int .i64 id.s, .int .i64 id.q] 31)) := (Below.refl _ _).alloc (Nat.le_refl _) _
  have hI := VarAt.new w 31 [.int .i64 id.s, .int .i64 id.q]
  obtain ⟨la, lc, rfl⟩ := owns_slice' h.row
  obtain ⟨W0, hW0⟩ : ∃ W0 : World, W0 = w.alloc (.cells #[.int .i64 id.s, .int .i64 id.q] 31) := ⟨_, rfl⟩
  have hh := h.below hb0
  have HB0 := Lib.hid (show Below w.heap.size w W0 from hW0 ▸ hb0)
  have HH := Lib.hid (show RefAt W0 x g S L (.slice la L.length lc) B from hW0 ▸ hh)
  have HI := Lib.hid (show VarAt W0 w.heap.size 31 [.int .i64 id.s, .int .i64 id.q] from hW0 ▸ hI)
  have HR := Lib.hid hR
  have HW0 := Lib.hid hW0
  have x2 := hh.box.cell (j := 2) rfl
  have xl := hh.box.lt
  clear h hb0 hI hR hh hW0
  go_enter Try.func42, Try.ntmps42
  go_wp2
  clear x2 xl
  go_loopw [5] (fun i wr => ∃ m n : Nat, m ≤ L.length ∧ i = .int .i64 m ∧ (∀ (k : Nat) y, k < m → L[k]? = some y → y.1.id ≠ id) ∧ wr = W0.drewN n) (fun i _ => L.length - (intOf i).toNat)
  case atStart => exact ⟨0, 0, by omega, rfl, fun k y hk => by omega, by rw [HW0.out]; rfl⟩
  case round =>
    obtain ⟨m, n, hm, rfl, hno, rfl⟩ := hrel
    have HN := Lib.hid hno
    have x2 := HH.out.box.cell (j := 2) rfl
    have xl := HH.out.box.lt
    have i0 := HI.out.cell (j := 0) rfl
    have i1 := HI.out.cell (j := 1) rfl
    have il := HI.out.lt
    clear hno
    rcases Nat.lt_or_ge m L.length with hlt | hge
    · obtain ⟨y, hy⟩ : ∃ y, L[m]? = some y := ⟨L[m], List.getElem?_eq_getElem hlt⟩
      obtain ⟨lk, lcap, hle, hlkl, hlcap⟩ := row_addr HH.out.row (by omega)
      cases hle
      obtain ⟨y0, y1, -, -, -, -, -, yl⟩ := CellsR.of HH.out.row hy
      obtain ⟨⟨yid, yg, yk⟩, yv⟩ := y
      simp only at y0 y1
      have he := eql31 yid id
      have hmI : (m : Int) < (L.length : Int) := by omega
      have HY := Lib.hid hy
      have HLT := Lib.hid hlt
      clear hy hlt
      by_cases hid : yid = id
      · have hd : decide (yid = id) = true := decide_eq_true hid
        have HE := Lib.hid hid
        rw [hd] at he
        clear hid hd
        go_upto_region 4 with fail
        go_quiet (fail)
        go_wp2
        go_tidy
        rw [World.drewN_drewN]
        exact HR.out _ _ ⟨m, rfl, HB0.out.trans ((drewN_below W0 _).mono HB0.out.size), .inr ⟨m, _, rfl, HY.out, HE.out⟩⟩
      · have hd : decide (yid = id) = false := decide_eq_false hid
        have HE := Lib.hid hid
        rw [hd] at he
        clear hid hd
        go_upto_region 4 with fail
        go_quiet (fail)
        go_wp2
        go_tidy
        refine ⟨⟨m + 1, _, HLT.out, rfl, fun k z hk hz => ?_, by first | rfl | exact World.drewN_drewN ..⟩, by have := HLT.out; simp [intOf]; omega⟩
        rcases Nat.lt_or_ge k m with h1 | h1
        · exact HN.out k z h1 hz
        · obtain rfl : k = m := by omega
          rw [HY.out] at hz; cases hz; exact HE.out
    · obtain rfl : m = L.length := by omega
      go_wp2
      go_tidy
      refine HR.out _ _ ⟨-1, rfl, HB0.out.trans ((drewN_below W0 _).mono HB0.out.size), .inl ⟨rfl, fun y hy => ?_⟩⟩
      obtain ⟨k, hk⟩ := List.getElem?_of_mem hy
      exact HN.out k y (List.getElem?_eq_some_iff.1 hk).1 hk
set_option maxHeartbeats 4000000 in
set_option maxRecDepth 100000 in
theorem c53 {c : Int} {lv v : Value} {xs : List Int} (hx : VarAt w x 64 [.int .i64 g, .int .u64 c, lv]) (h : RowOf encG 1 w v xs) : Calls Try.prog 53 #[.pointer (some ⟨x, 0, none⟩), v] w (BoolE (decide (Right g xs)) w) := by
  refine gen (S := BoolE (decide (Right g xs)) w) fun R hR => ?_
  have hln := h.len
  unfold maxLen at hln
  obtain ⟨a, cap, rfl, -⟩ := id h
  have f0 := hx.cell (j := 0) rfl
  have xl := hx.lt
  have no : ¬ Right g xs → ∀ n, R (.returned (.bool false)) (w.drewN n) := fun hn n => hR _ _ ⟨by rw [decide_eq_false hn], drewN_below w n⟩
  have NO := Lib.hid no
  have h38 := fun n => c38 (h.keep (drewN_below w n)) g
  have H38 := Lib.hid h38
  have H := Lib.hid h
  have HR := Lib.hid hR
  clear h hR hx no h38
  go_enter Try.func53, Try.ntmps53
  go_wp2
  go_loopw [5] (fun i wr => ∃ m n : Nat, m ≤ xs.length ∧ i = .int .i64 m ∧ RgtTo xs m ∧ wr = w.drewN n) (fun i _ => xs.length - (intOf i).toNat)
  case atStart => exact ⟨0, 0, by omega, rfl, by simp [RgtTo], rfl⟩
  case round =>
    obtain ⟨m, n, hm, rfl, hno, rfl⟩ := hrel
    have HN := Lib.hid hno
    clear hno
    rcases Nat.lt_or_ge m xs.length with hlt | hge
    · obtain ⟨b, o, y, rfl, hbl, hy, hc⟩ := H.out.gAt hlt
      have hmI : (m : Int) < (xs.length : Int) := by omega
      have HY := Lib.hid hy
      have HLT := Lib.hid hlt
      by_cases h0 : y < 0
      · have HB := Lib.hid (NO.out (rgt_not hy (.inl (by omega))))
        have h0f : decide (y < 0) = true := decide_eq_true h0
        clear hy hlt
        go_upto_region 4 with fail
        go_quiet (fail)
        go_wp2
        go_tidy
        rw [World.drewN_drewN]
        exact HB.out _
      by_cases h4 : 3 < y
      · have HB := Lib.hid (NO.out (rgt_not hy (.inl (by omega))))
        have h0f : decide (y < 0) = false := decide_eq_false h0
        have h4f : decide (3 < y) = true := decide_eq_true h4
        clear hy hlt h0
        go_upto_region 4 with fail
        go_quiet (fail)
        go_wp2
        go_tidy
        rw [World.drewN_drewN]
        exact HB.out _
      have h0f : decide (y < 0) = false := decide_eq_false h0
      have h4f : decide (3 < y) = false := decide_eq_false h4
      have HY0 := Lib.hid (show 0 ≤ y ∧ y < 4 by omega)
      by_cases hm0 : 0 < m
      · have hm1 : (0 : Int) < (m : Int) := by omega
        have hm1f : decide ((0 : Int) < (m : Int)) = true := decide_eq_true hm1
        obtain ⟨j, hj⟩ : ∃ j, m = j + 1 := ⟨m - 1, by omega⟩
        have hj1 : (m : Int) - 1 = (j : Int) := by omega
        have hjI : (j : Int) < (xs.length : Int) := by omega
        have hjw : IntKind.i64.wrap (j : Int) = (j : Int) := IntWalk.i64_in _ (by omega)
        obtain ⟨b', o', z, hbb, -, hz, hcz⟩ := H.out.gAt (i := j) (by omega)
        cases hbb
        by_cases hzy : y ≤ z
        · have HB := Lib.hid (NO.out (rgt_not hy (.inr ⟨z, hm0, by rw [hj]; exact hz, by omega⟩)))
          have hzf : decide (y ≤ z) = true := decide_eq_true hzy
          clear hy hlt h0 h4 hz hj
          go_upto_region 4 with fail
          go_quiet (fail)
          go_wp2
          go_tidy
          rw [World.drewN_drewN]
          exact HB.out _
        · have hzf : decide (y ≤ z) = false := decide_eq_false hzy
          have HP := Lib.hid (rgt_push HN.out hy HY0.out.1 HY0.out.2 (fun u _ hu => by rw [hj] at hu; simp only [Nat.add_sub_cancel] at hu; rw [hz] at hu; cases hu; omega))
          clear hy hlt h0 h4 hz hj hzy
          go_upto_region 4 with fail
          go_quiet (fail)
          go_wp2
          go_tidy
          exact ⟨⟨m + 1, _, HLT.out, rfl, HP.out, by first | rfl | exact World.drewN_drewN ..⟩, by have := HLT.out; simp [intOf]; omega⟩
      · have hm1 : ¬ (0 : Int) < (m : Int) := by omega
        have hm1f : decide ((0 : Int) < (m : Int)) = false := decide_eq_false hm1
        have HP := Lib.hid (rgt_push HN.out hy HY0.out.1 HY0.out.2 (fun u h _ => absurd h hm0))
        clear hy hlt h0 h4 hm1
        go_upto_region 4 with fail
        go_quiet (fail)
        go_wp2
        go_tidy
        exact ⟨⟨m + 1, _, HLT.out, rfl, HP.out, by first | rfl | exact World.drewN_drewN ..⟩, by have := HLT.out; simp [intOf]; omega⟩
    · obtain rfl : m = xs.length := by omega
      have hr := HN.out
      unfold RgtTo at hr
      rw [List.take_length] at hr
      have hd : decide (Right g xs) = decide (g ∈ xs) := by
        rw [decide_eq_decide]
        exact ⟨fun h => h.2.2, fun h => ⟨hr.1, hr.2, h⟩⟩
      have HD := Lib.hid hd
      clear hr hd
      go_wp2_with (first | (go_at_call 38; refine (H38.out _).mono ?_; rintro e w' ⟨rfl, rfl⟩) | fail)
      go_tidy
      refine HR.out _ _ ⟨?_, drewN_below w n⟩
      show Ending.returned (.bool (decide (g ∈ xs))) = _
      rw [HD.out]
end
end Go.Proofs.Ytamjdghjaimihaa
