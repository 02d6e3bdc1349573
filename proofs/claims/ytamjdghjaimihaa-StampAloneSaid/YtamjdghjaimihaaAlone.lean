/- The queue where at most one waits: Next, Done, Clock, Safe, Waiting. Conditions: each law's own. -/
import Derived.Test.YtamjdghjaimihaaNil
import Derived.Laws.StructEq
import Derived.Deep.QuietTactic
namespace Go.Proofs.Ytamjdghjaimihaa
open Go.ChangeShapes Go.WideShapes Go.ChangeAt Go.RowKit

theorem equal31 (s q s' q' : Int) (w : World) : (Op.equal 31 (.agg #[.int .i64 s, .int .i64 q]) (.agg #[.int .i64 s', .int .i64 q'])).run Try.prog w = .ok (decide (s = s') && decide (q = q')) w := by
  have hS : Try.prog.underlying 31 = some (.struct (Try.prog.fieldsOf 31)) := by kernel_rfl
  have hp : Try.prog.stoodInHeld 31 = false := by kernel_rfl
  have h0 : Op.equal 31 (.agg #[.int .i64 s, .int .i64 q]) (.agg #[.int .i64 s', .int .i64 q']) = Op.equalIn (9999 + 1) 31 (.agg #[.int .i64 s, .int .i64 q]) (.agg #[.int .i64 s', .int .i64 q']) := rfl
  rw [h0, run_equalIn_agg w 9999 31 _ _ hS hp]
  simp only [Program.fieldsOf, Try.underlying31]
  go_simp
  by_cases h1 : s = s' <;> by_cases h2 : q = q' <;> simp [h1, h2]
theorem eql31 (s q s' q' : Int) (w : World) : (binOp .eql 31 (.agg #[.int .i64 s, .int .i64 q]) (.agg #[.int .i64 s', .int .i64 q'])).run Try.prog w = .ok (.bool (decide (s = s') && decide (q = q'))) w := by
  simp only [binOp, Sem.run_bind, equal31, Result.andThen_ok]
  rfl
theorem neq31 (s q s' q' : Int) (w : World) : (binOp .neq 31 (.agg #[.int .i64 s, .int .i64 q]) (.agg #[.int .i64 s', .int .i64 q'])).run Try.prog w = .ok (.bool (!(decide (s = s') && decide (q = q')))) w := by
  simp only [binOp, Sem.run_bind, equal31, Result.andThen_ok]
  rfl

def NextOne (s q own : Int) (w : World) (e : Ending) (w' : World) : Prop := e = .returned (.tuple #[.agg #[.int .i64 s, .int .i64 q], .int .u64 own, .bool true]) ∧ Below w.heap.size w w'
set_option maxHeartbeats 2000000 in
theorem c13one (x p m h o c : Nat) (g n s q own : Int) (gs : Value) (w : World) (hq : VarAt w x 78 [.int .i64 g, .int .u64 n, .slice (some ⟨h, o, none⟩) 1 c]) (hc : w.cell? ⟨h, o, none⟩ = some (.pointer (some ⟨p, 0, none⟩)))
    (hp : VarAt w p 84 (encOne s q gs own (.map (some m)) true)) (hm : w.heap[m]? = some (.map #[] 0)) : Calls Try.prog 13 #[.pointer (some ⟨x, 0, none⟩)] w (NextOne s q own w) := by
  refine gen (S := NextOne s q own w) fun R hR => ?_
  have f2 := hq.cell (j := 2) (u := .slice (some ⟨h, o, none⟩) 1 c) rfl
  have p0 := hp.cell (j := 0) (u := .int .i64 s) rfl
  have p1 := hp.cell (j := 1) (u := .int .i64 q) rfl
  have p4 := hp.cell (j := 5) (u := .bool true) rfl
  have lx := hq.lt
  have lp := hp.lt
  have lh := World.block_lt_of_cell? w _ hc
  have lx1 := Nat.lt_succ_of_lt lx
  have lp1 := Nat.lt_succ_of_lt lp
  have lh1 := Nat.lt_succ_of_lt lh
  have lm : m < w.heap.size := (Array.getElem?_eq_some_iff.1 hm).1
  simp only [Nat.succ_eq_add_one] at lx1 lp1 lh1
  have HP := Lib.hid (hp.alloc (.cells #[.int .i64 0, .int .i64 0] 31))
  have HM : Hid ((w.alloc (.cells #[.int .i64 0, .int .i64 0] 31)).heap[m]? = some (.map #[] 0)) := by
    show _ = _
    rw [Below.heap_alloc w _ m lm]; exact hm
  clear hq hp hm
  go_enter Try.func13, Try.ntmps13
  go_wp2
  go_region_held3 (fun w' => w'.cell? ⟨x, 2, none⟩ = some (.slice (some ⟨h, o, none⟩) 1 c) ∧ w'.cell? ⟨h, o, none⟩ = some (.pointer (some ⟨p, 0, none⟩)) ∧ w'.cell? ⟨p, 0, none⟩ = some (.int .i64 s) ∧ w'.cell? ⟨p, 1, none⟩ = some (.int .i64 q))
    (first
      | go_keep
      | fail)
    (first
      | (go_at_call 37
         refine (c37one p s q own gs m _ ?_ ?_).mono ?_
         (focus exact HP.out)
         (focus exact HM.out)
         rintro e w' ⟨rfl, rfl⟩)
      | fail)
  go_wp2
  refine bodyPost_ret (v := .tuple #[.agg #[.int .i64 s, .int .i64 q], .int .u64 own, .bool true]) (by simp [results, Try.results13, go_sem]) rfl (hR _ _ ⟨rfl, ?_⟩)
  exact (((Below.refl _ _).alloc (Nat.le_refl _) _).alloc (by simp) _).drew

def DoneOne (x h o c : Nat) (w : World) (e : Ending) (w' : World) : Prop := e = .returned (.bool true) ∧ ∃ w1 ob, Below w.heap.size w w1 ∧ w' = (w1.setCell ⟨x, 2, none⟩ (.slice (some ⟨h, if c = 1 then o else o + 1, none⟩) 0 (c - 1))).alloc ob
set_option maxHeartbeats 2000000 in
theorem c14one (x p m h o c : Nat) (g n s q own : Int) (gs : Value) (w : World) (hc1 : 1 ≤ c) (hcm : c ≤ maxLen) (hq : VarAt w x 78 [.int .i64 g, .int .u64 n, .slice (some ⟨h, o, none⟩) 1 c]) (hc : w.cell? ⟨h, o, none⟩ = some (.pointer (some ⟨p, 0, none⟩)))
    (hp : VarAt w p 84 (encOne s q gs own (.map (some m)) true)) (hm : w.heap[m]? = some (.map #[] 0)) : Calls Try.prog 14 #[.pointer (some ⟨x, 0, none⟩), .agg #[.int .i64 s, .int .i64 q]] w (DoneOne x h o c w) := by
  refine gen (S := DoneOne x h o c w) fun R hR => ?_
  unfold maxLen at hcm
  have lx := hq.lt
  have lp := hp.lt
  have lh := World.block_lt_of_cell? w _ hc
  have lm : m < w.heap.size := (Array.getElem?_eq_some_iff.1 hm).1
  have H13 := Lib.hid (c13one x p m h o c g n s q own gs (w.alloc (.cells #[.int .i64 s, .int .i64 q] 31)) (hq.alloc _) (Lib.cell?_alloc_some _ hc) (hp.alloc _) (by rw [Below.heap_alloc w _ m lm]; exact hm))
  have HQ := Lib.hid (hq.alloc (.cells #[.int .i64 s, .int .i64 q] 31))
  have HN := neq31 s q s q
  clear hc hp hm hq
  by_cases he : c = 1
  · subst he
    go_enter Try.func14, Try.ntmps14
    go_wp2_with (first
      | (go_at_call 13
         (with_reducible refine H13.out.mono ?_)
         rintro e w1 ⟨rfl, hb⟩
         have hQ1 := HQ.out.keep hb HQ.out.lt
         have f2 := hQ1.cell (j := 2) (u := .slice (some ⟨h, o, none⟩) 1 1) rfl
         have z2 := hQ1.free 2
         have l1 := hQ1.lt
         have i1 := (VarAt.new w 31 [.int .i64 s, .int .i64 q]).keep hb (by simp)
         have j0 := i1.cell (j := 0) (u := .int .i64 s) rfl
         have j1 := i1.cell (j := 1) (u := .int .i64 q) rfl
         have l2 := i1.lt
         have HB := Lib.hid hb
         clear hb hQ1 i1)
      | fail)
    all_goals
      go_tidy
      exact ⟨rfl, w1, _, ((Below.refl _ _).alloc (Nat.le_refl _) _).trans (HB.out.mono (by simp)), rfl⟩
  · have hlt : 1 < c := by omega
    have hlt' : ((1 : Nat) : Int) < (c : Int) := by omega
    go_enter Try.func14, Try.ntmps14
    go_wp2_with (first
      | (go_at_call 13
         (with_reducible refine H13.out.mono ?_)
         rintro e w1 ⟨rfl, hb⟩
         have hQ1 := HQ.out.keep hb HQ.out.lt
         have f2 := hQ1.cell (j := 2) (u := .slice (some ⟨h, o, none⟩) 1 c) rfl
         have z2 := hQ1.free 2
         have l1 := hQ1.lt
         have i1 := (VarAt.new w 31 [.int .i64 s, .int .i64 q]).keep hb (by simp)
         have j0 := i1.cell (j := 0) (u := .int .i64 s) rfl
         have j1 := i1.cell (j := 1) (u := .int .i64 q) rfl
         have l2 := i1.lt
         have HB := Lib.hid hb
         clear hb hQ1 i1)
      | fail)
    all_goals
      go_tidy
      exact ⟨rfl, w1, _, ((Below.refl _ _).alloc (Nat.le_refl _) _).trans (HB.out.mono (by simp)), by rw [if_neg he]⟩

theorem c15 (x : Nat) (g n : Int) (v : Value) (w : World) (hq : VarAt w x 78 [.int .i64 g, .int .u64 n, v]) : Calls Try.prog 15 #[.pointer (some ⟨x, 0, none⟩)] w fun e w' => e = .returned (.int .u64 n) ∧ w' = w := by
  refine gen fun R hR => ?_
  have f1 := hq.cell (j := 1) (u := .int .u64 n) rfl
  clear hq
  go_enter Try.func15, Try.ntmps15
  go_wp2
theorem c16none (x : Nat) (g n : Int) (a : Option Addr) (c : Nat) (w : World) (hq : VarAt w x 78 [.int .i64 g, .int .u64 n, .slice a 0 c]) : Calls Try.prog 16 #[.pointer (some ⟨x, 0, none⟩)] w fun e w' => e = .returned (.int .u64 n) ∧ w' = w := by
  refine gen fun R hR => ?_
  have f2 := hq.cell (j := 2) (u := .slice a 0 c) rfl
  have HQ := Lib.hid hq
  clear hq
  go_enter Try.func16, Try.ntmps16
  go_wp2_with (go_at_call 15; (with_reducible refine (c15 _ _ _ _ _ HQ.out).mono ?_); rintro e w' ⟨rfl, rfl⟩)
theorem c17none (x : Nat) (g n : Int) (a : Option Addr) (c : Nat) (w : World) (hq : VarAt w x 78 [.int .i64 g, .int .u64 n, .slice a 0 c]) : Calls Try.prog 17 #[.pointer (some ⟨x, 0, none⟩)] w fun e w' => e = .returned (.slice none 0 0) ∧ w' = w := by
  refine gen fun R hR => ?_
  have f2 := hq.cell (j := 2) (u := .slice a 0 c) rfl
  clear hq
  go_enter Try.func17, Try.ntmps17
  go_wp2
  go_loopw [3, 13] (fun v i wr => v = .slice none 0 0 ∧ i = .int .i64 0 ∧ wr = w) (fun _ _ _ => 0)
  case atStart => exact ⟨rfl, rfl, rfl⟩
  case round =>
    obtain ⟨rfl, rfl, rfl⟩ := hrel
    go_wp2
end Go.Proofs.Ytamjdghjaimihaa
