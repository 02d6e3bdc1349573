/- The reference: Single. Conditions: each law's own. -/
import Derived.Test.YtmdfilffoomckaaRAhead
namespace Go.Proofs.Ytmdfilffoomckaa
open Go.ChangeShapes Go.WideShapes Go.ChangeAt Go.RowKit

def TellEnd (P : Prop) (w : World) (e : Ending) (w' : World) : Prop := ∃ b : Bool, e = .returned (.bool b) ∧ (b = true ↔ P) ∧ Below w.heap.size w w'
theorem TellEnd.yes {P : Prop} {w w' : World} (h : P) (hb : Below w.heap.size w w') : TellEnd P w (.returned (.bool true)) w' := ⟨true, rfl, by simp [h], hb⟩
theorem TellEnd.no {P : Prop} {w w' : World} (h : ¬ P) (hb : Below w.heap.size w w') : TellEnd P w (.returned (.bool false)) w' := ⟨false, rfl, by simp [h], hb⟩
def SglRel (ds : List DoneD) (W1 : World) (i : Value) (wr : World) : Prop := ∃ m n : Nat, m ≤ ds.length ∧ i = .int .i64 m ∧ Single (ds.take m) ∧ wr = W1.drewN n
def SglIn (ds : List DoneD) (i : Nat) (d : DoneD) (W1 : World) (k : Value) (wr : World) : Prop := ∃ m n : Nat, m ≤ i ∧ k = .int .i64 m ∧ (∀ (x : Nat) y, x < m → ds[x]? = some y → Agree y d) ∧ wr = W1.drewN n
set_option maxHeartbeats 8000000 in
set_option maxRecDepth 100000 in
theorem c19 {w : World} {h : HistD} (ok : HistOk w h) : Calls Try.prog 19 #[h.agg] w (TellEnd (Single h.done) w) := by
  refine gen (S := TellEnd (Single h.done) w) fun R hR => ?_
  obtain ⟨ds, seen, snaps, da, dc, sa, sc, na, nc⟩ := h
  have hrow := ok.1
  simp only [HistD.agg, HistD.dv, HistD.sv, HistD.nv] at hrow hR ⊢
  have hln : ds.length ≤ maxLen := hrow.len
  unfold maxLen at hln
  clear ok
  have HROW := Lib.hid hrow
  clear hrow
  go_enter Try.func19, Try.ntmps19
  go_wp2
  generalize hW : (w.alloc (.cells #[.slice da ds.length dc, .slice sa seen.length sc, .slice na snaps.length nc] 34)) = W1
  have hb1 : Below w.heap.size w W1 := by rw [← hW]; exact below1 _ _
  have hK : VarAt W1 w.heap.size 34 [.slice da ds.length dc, .slice sa seen.length sc, .slice na snaps.length nc] := by rw [← hW]; exact VarAt.new w 34 _
  have hc0 := hK.cell (j := 0) rfl
  have H1 := Lib.hid (HROW.out.keep hb1)
  have HB1 := Lib.hid hb1
  have hw1 : w.heap.size < W1.heap.size := hK.lt
  clear hW hb1 hK
  go_loopw [3] (fun i wr => SglRel ds W1 i wr) (fun i _ => ds.length - (intOf i).toNat)
  case atStart => exact ⟨0, 0, by omega, rfl, by simp [Single], rfl⟩
  case round =>
    obtain ⟨i, n, hi, rfl, hs, rfl⟩ := hrel
    have HS := Lib.hid hs
    clear hs
    rcases Nat.lt_or_ge i ds.length with hlt | hge
    · obtain ⟨b, o, d, rfl, hbl, hd, hi0, hi1, -, -, hi4, hi5⟩ := H1.out.doneAt hlt
      obtain ⟨⟨⟨s1, q1⟩, rd1, ws1, ra1, rc1, wa1, wc1⟩, y1, st1⟩ := d
      simp only at hi0 hi1 hi4 hi5
      have hiI : (i : Int) < (ds.length : Int) := by omega
      have HD := Lib.hid hd
      clear hd
      go_wp2
      go_loopw [4] (fun k wr => SglIn ds i ⟨⟨⟨s1, q1⟩, rd1, ws1, ra1, rc1, wa1, wc1⟩, y1, st1⟩ W1 k wr) (fun k _ => i - (intOf k).toNat)
      case atStart => exact ⟨0, n, by omega, rfl, fun x y hx => by omega, rfl⟩
      case round =>
        obtain ⟨k, n2, hk, rfl, hno, rfl⟩ := hrel
        have HN := Lib.hid hno
        clear hno
        rcases Nat.lt_or_ge k i with hkl | hkg
        · obtain ⟨b2, o2, y, hb2, -, hy, hk0, hk1, -, -, hk4, hk5⟩ := H1.out.doneAt (i := k) (by omega)
          cases hb2
          obtain ⟨⟨⟨s2, q2⟩, rd2, ws2, ra2, rc2, wa2, wc2⟩, y2, st2⟩ := y
          simp only at hk0 hk1 hk4 hk5
          have hkI : (k : Int) < (i : Int) := by omega
          have hkL : (k : Int) < (ds.length : Int) := by omega
          have HY := Lib.hid hy
          clear hy
          have next : Agree ⟨⟨⟨s2, q2⟩, rd2, ws2, ra2, rc2, wa2, wc2⟩, y2, st2⟩ ⟨⟨⟨s1, q1⟩, rd1, ws1, ra1, rc1, wa1, wc1⟩, y1, st1⟩ → ∀ m, SglIn ds i ⟨⟨⟨s1, q1⟩, rd1, ws1, ra1, rc1, wa1, wc1⟩, y1, st1⟩ W1 (.int .i64 ((k : Int) + 1)) (W1.drewN m) := fun ha m => ⟨k + 1, m, by omega, rfl, fun x y hx hy => by
            rcases Nat.lt_or_ge x k with h1 | h1
            · exact HN.out x y h1 hy
            · obtain rfl : x = k := by omega
              rw [HY.out] at hy; cases hy; exact ha, rfl⟩
          have HX := Lib.hid next
          clear next
          have heq := eql39 ⟨s1, q1⟩ ⟨s2, q2⟩
          simp only at heq
          by_cases he : (⟨s1, q1⟩ : IdD) = ⟨s2, q2⟩
          · rw [decide_eq_true he] at heq
            have HE := Lib.hid he
            clear he
            have bad : ¬ (y2 = y1 ∧ st2 = st1) → ¬ Single ds := fun hn => single_not hkl HY.out HD.out (fun ha => hn (ha HE.out.symm))
            have HBD := Lib.hid bad
            clear bad
            by_cases hst : st1 = st2
            · subst hst
              cases y1 <;> cases y2
              · go_wp2
                go_quiet (fail)
                go_wp2
                go_tidy
                exact ⟨HX.out (fun _ => ⟨rfl, rfl⟩) _, by simp [intOf]; omega⟩
              · go_wp2
                go_quiet (fail)
                go_wp2
                go_tidy
                exact TellEnd.no (HBD.out (by simp)) (below_drewN (below_drewN HB1.out _) _)
              · go_wp2
                go_quiet (fail)
                go_wp2
                go_tidy
                exact TellEnd.no (HBD.out (by simp)) (below_drewN (below_drewN HB1.out _) _)
              · go_wp2
                go_quiet (fail)
                go_wp2
                go_tidy
                exact ⟨HX.out (fun _ => ⟨rfl, rfl⟩) _, by simp [intOf]; omega⟩
            · have hsf : (st1 != st2) = true := by simpa using hst
              cases y1 <;> cases y2
              · go_wp2
                go_quiet (fail)
                go_wp2
                go_tidy
                exact TellEnd.no (HBD.out (fun h => hst h.2.symm)) (below_drewN (below_drewN HB1.out _) _)
              · go_wp2
                go_quiet (fail)
                go_wp2
                go_tidy
                exact TellEnd.no (HBD.out (by simp)) (below_drewN (below_drewN HB1.out _) _)
              · go_wp2
                go_quiet (fail)
                go_wp2
                go_tidy
                exact TellEnd.no (HBD.out (by simp)) (below_drewN (below_drewN HB1.out _) _)
              · go_wp2
                go_quiet (fail)
                go_wp2
                go_tidy
                exact TellEnd.no (HBD.out (fun h => hst h.2.symm)) (below_drewN (below_drewN HB1.out _) _)
          · rw [decide_eq_false he] at heq
            have HE := Lib.hid he
            clear he
            go_wp2
            go_quiet (fail)
            go_wp2
            go_tidy
            exact ⟨HX.out (fun e => absurd e.symm HE.out) _, by simp [intOf]; omega⟩
        · obtain rfl : k = i := by omega
          have hp := single_push HS.out HD.out HN.out
          have HP := Lib.hid hp
          clear hp
          go_wp2
          go_tidy
          exact ⟨⟨k + 1, _, by omega, rfl, HP.out, rfl⟩, by simp [intOf]; omega⟩
    · obtain rfl : i = ds.length := by omega
      rw [List.take_length] at HS
      go_wp2
      go_tidy
      exact TellEnd.yes HS.out (below_drewN HB1.out _)
end Go.Proofs.Ytmdfilffoomckaa
