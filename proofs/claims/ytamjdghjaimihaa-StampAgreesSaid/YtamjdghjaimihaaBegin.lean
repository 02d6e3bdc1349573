/- Begin, where none waits. Conditions: each law's own. -/
import Derived.Test.YtamjdghjaimihaaOne
import Derived.Test.YtamjdghjaimihaaHeld
namespace Go.Proofs.Ytamjdghjaimihaa
open Go.ChangeShapes Go.WideShapes Go.ChangeAt Go.RowKit

theorem c36one (x : Nat) (g n : Int) (a : Option Addr) (c : Nat) (w : World) (h : VarAt w x 78 [.int .i64 g, .int .u64 n, .slice a 1 c]) : Calls Try.prog 36 #[.pointer (some ⟨x, 0, none⟩)] w fun e w' => e = .returned (.tuple #[]) ∧ w' = w := by
  refine gen fun R hR => ?_
  have f2 := h.cell (j := 2) (u := .slice a 1 c) rfl
  clear h
  go_enter Try.func36, Try.ntmps36
  go_wp2_with (go_at_call 49; (with_reducible refine (c49one _ _ _ _).mono ?_); rintro e w' ⟨rfl, rfl⟩)
  (try go_end0)
  exact hR _ _ ⟨rfl, rfl⟩
theorem c11nil (s q : Int) (gs : Value) (w : World) : Calls Try.prog 11 #[.pointer none, .agg #[.int .i64 s, .int .i64 q], gs] w fun e w' => e = .returned (.tuple #[.int .u64 0, .int .i64 2]) ∧ w' = w.alloc (.cells #[.int .i64 s, .int .i64 q] 31) := by
  refine gen fun R hR => ?_
  go_enter Try.func11, Try.ntmps11
  go_wp2
theorem c11bad (x : Nat) (s q : Int) (gs : Value) (w : World) (hg : goodId s q = false) : Calls Try.prog 11 #[.pointer (some ⟨x, 0, none⟩), .agg #[.int .i64 s, .int .i64 q], gs] w fun e w' => e = .returned (.tuple #[.int .u64 0, .int .i64 2]) ∧ Below w.heap.size w w' := by
  refine gen fun R hR => ?_
  have HC := Lib.hid (c32 s q)
  rw [hg] at HC
  clear hg
  go_enter Try.func11, Try.ntmps11
  go_wp2_with (go_at_call 32; (with_reducible refine (HC.out _).mono ?_); rintro e w' ⟨rfl, rfl⟩)
  all_goals
    go_tidy
    exact ⟨rfl, ((Below.refl _ _).alloc (Nat.le_refl _) _).alloc (by simp) _⟩
theorem c35one (b o c : Nat) (g : Int) (w : World) (h : w.cell? ⟨b, o, none⟩ = some (.int .i64 g)) : Calls Try.prog 35 #[.slice (some ⟨b, o, none⟩) 1 c] w fun e w' => ∃ a n k, e = .returned (.slice a n k) ∧ Below w.heap.size w w' := by
  refine (c35 b o 1 c [.int .i64 g] w rfl (by simp [Value.oneCell']) (by omega) ?_).mono ?_
  · intro j u hj
    have h0 : j = 0 := by
      have := (List.getElem?_eq_some_iff.1 hj).1
      simp at this; omega
    subst h0
    simp at hj; subst hj; exact h
  · rintro e w' ⟨v', rfl, ⟨_, ⟨rfl, _⟩ | ⟨_, _, _, rfl, _⟩⟩, _, hb⟩
    · exact ⟨_, _, _, rfl, hb⟩
    · exact ⟨_, _, _, rfl, hb⟩
theorem cell_last (w : World) (u : Value) (T : TypeId) (B : Nat) (hB : B = w.heap.size) : (w.alloc (.cells #[u] T)).cell? ⟨B, 0, none⟩ = some u := by subst hB; exact (VarAt.new w T [u]).cell (j := 0) rfl
theorem underlying76 : Try.prog.underlying 76 = some (.slice 80) := by kernel_rfl
theorem info80 : (Try.prog.info? 80).map (fun i => (i.zero, i.size, i.bytes)) = some (some (.pointer none), 1, 8) := by kernel_rfl
def BeginEnd (B base x : Nat) (g n s q : Int) (w : World) (e : Ending) (w' : World) : Prop :=
  e = .returned (.tuple #[.int .u64 (n + 1), .int .i64 0]) ∧ ∃ (v : Value) (p m : Nat) (gs : Value),
    VarAt w' x 78 [.int .i64 g, .int .u64 (n + 1), v] ∧ Tail w' base v 1 [.pointer (some ⟨p, 0, none⟩)] ∧ VarAt w' p 84 (encOne s q gs (n + 1) (.map (some m)) true) ∧
    w'.heap[m]? = some (.map #[] 0) ∧ v.ownBlock ≠ some x ∧ Below B w w' ∧ w.heap.size ≤ p
theorem own_lt {w : World} {base n : Nat} {v : Value} {xs : List Value} (h : Tail w base v (n + 1) xs) : ∃ k, v.ownBlock = some k ∧ k < w.heap.size ∧ base ≤ k := by
  obtain ⟨ao, cap, rfl, h1, h2, h3, h4, h5⟩ := h
  obtain ⟨g, off, rfl, hg, hlt, _⟩ := h5 (by omega)
  exact ⟨g, rfl, hlt, hg⟩
theorem begin_close {B base x p m : Nat} {g n s q : Int} {v v2 gs : Value} {w W w2 : World} (hx : v.ownBlock ≠ some x) (hv : ∀ k, v.ownBlock = some k → k < w.heap.size ∧ (w.heap.size ≤ k ∨ B ≤ k)) (hlx : x < w.heap.size) (hBx : B ≤ x)
    (hp : VarAt W p 84 (encOne s q gs (n + 1) (.map (some m)) true)) (hm : W.heap[m]? = some (.map #[] 0)) (hpw : w.heap.size ≤ p) (hmw : w.heap.size ≤ m) (hB : Below B w W)
    (hT : Tail w2 base v2 1 [.pointer (some ⟨p, 0, none⟩)]) (hg : W.grownBy w2 v.ownBlock) (hvv : v2.ownBlock = v.ownBlock ∨ ∃ k, v2.ownBlock = some k ∧ W.heap.size ≤ k) (hQ : VarAt w2 x 78 [.int .i64 g, .int .u64 (n + 1), v]) (hW : w.heap.size ≤ W.heap.size) :
    BeginEnd B base x g n s q w (.returned (.tuple #[.int .u64 (n + 1), .int .i64 0])) (w2.setCell ⟨x, 2, none⟩ v2) := by
  have hx2 : v2.ownBlock ≠ some x := by
    rcases hvv with h | ⟨k, h, hk⟩
    · rw [h]; exact hx
    · rw [h]; intro e; injection e with e; omega
  have hm1 : m < W.heap.size := (Array.getElem?_eq_some_iff.1 hm).1
  refine ⟨rfl, v2, p, m, gs, ?_, ?_, ?_, ?_, hx2, ?_, hpw⟩
  · exact hQ.set 2 v2
  · exact hT.other hx2 _
  · exact (hp.grown hg (fun e => by have := (hv p e.symm).1; omega)).other (by show p ≠ x; omega) _
  · rw [Below.heap_setCell _ ⟨x, 2, none⟩ v2 m (by show m ≠ x; omega), hg.block m hm1 (fun e => by have := (hv m e.symm).1; omega)]; exact hm
  · refine Below.setCell (hB.grown hg (by omega) (fun k hk => ?_)) (p := ⟨x, 2, none⟩) hBx v2
    have := hv k hk
    omega
/-- What holds all along where one begins. -/
def Held (B base x : Nat) (g n s q : Int) (v : Value) (w W : World) : Prop :=
  VarAt W x 78 [.int .i64 g, .int .u64 (n + 1), v] ∧ Tail W base v 0 [] ∧ VarAt W w.heap.size 31 [.int .i64 s, .int .i64 q] ∧ Below B w W ∧ w.heap.size + 1 ≤ W.heap.size
def BegS (x I : Nat) (n s q : Int) (v : Value) (w : World) : Prop := w.cell? ⟨x, 1, none⟩ = some (.int .u64 (n + 1)) ∧ w.cell? ⟨I, 0, none⟩ = some (.int .i64 s) ∧ w.cell? ⟨I, 1, none⟩ = some (.int .i64 q) ∧ w.cell? ⟨x, 2, none⟩ = some v
theorem Held.begS {B base x : Nat} {g n s q : Int} {v : Value} {w W : World} (h : Held B base x g n s q v w W) : BegS x w.heap.size n s q v W := ⟨h.1.cell (j := 1) rfl, h.2.2.1.cell (j := 0) rfl, h.2.2.1.cell (j := 1) rfl, h.1.cell (j := 2) rfl⟩
theorem Held.drewN {B base x : Nat} {g n s q : Int} {v : Value} {w W : World} (h : Held B base x g n s q v w W) (k : Nat) : Held B base x g n s q v w (W.drewN k) := ⟨h.1, h.2.1, h.2.2.1, below_drewN h.2.2.2.1 k, h.2.2.2.2⟩
theorem Held.alloc {B base x : Nat} {g n s q : Int} {v : Value} {w W : World} (h : Held B base x g n s q v w W) (hB : B ≤ w.heap.size) (o : Obj) : Held B base x g n s q v w (W.alloc o) :=
  ⟨h.1.alloc o, h.2.1.alloc o, h.2.2.1.alloc o, h.2.2.2.1.alloc (by have := h.2.2.2.2; omega) o, by have := h.2.2.2.2; simp; omega⟩
theorem Held.below {B base x : Nat} {g n s q : Int} {v : Value} {w W W' : World} (h : Held B base x g n s q v w W) (hB : B ≤ w.heap.size) (hb : Below W.heap.size W W') : Held B base x g n s q v w W' :=
  ⟨h.1.keep hb h.1.lt, h.2.1.below hb (Nat.le_refl _), h.2.2.1.keep hb h.2.2.1.lt, h.2.2.2.1.trans (hb.mono (by have := h.2.2.2.2; omega)), by have := h.2.2.2.2; have := hb.size; omega⟩
/-- What holds where the new one has been appended. -/
def Got (B base x : Nat) (g n s q : Int) (v v2 : Value) (w w2 : World) : Prop :=
  VarAt w2 x 78 [.int .i64 g, .int .u64 (n + 1), v] ∧ VarAt w2 w.heap.size 31 [.int .i64 s, .int .i64 q] ∧
    BeginEnd B base x g n s q w (.returned (.tuple #[.int .u64 (n + 1), .int .i64 0])) (w2.setCell ⟨x, 2, none⟩ v2)
theorem step_begin {B base x p m r : Nat} {g n s q : Int} {v gs : Value} {w W : World} (hx : v.ownBlock ≠ some x) (hv : ∀ k, v.ownBlock = some k → k < w.heap.size ∧ B ≤ k) (hlx : x < w.heap.size) (hBx : B ≤ x) (hbase : base ≤ w.heap.size)
    {ops : Array Oper} {o : Oper} {a : Act} {K : Act → World → Prop} {Q : Exit → Act → World → Prop} {E : Prop} (hgd : o.guard = none) (S X : Operand)
    (ho : o.op = .call { callee := .builtin .append, args := #[S, X], argTypes := #[76, 76] }) (hs : a.eval S = v) (hX : a.eval X = .slice (some ⟨r, 0, none⟩) 1 1)
    (hH : Held B base x g n s q v w W) (hp : VarAt W p 84 (encOne s q gs (n + 1) (.map (some m)) true)) (hm : W.heap[m]? = some (.map #[] 0)) (hr : VarAt W r 80 [.pointer (some ⟨p, 0, none⟩)]) (hpw : w.heap.size ≤ p) (hmw : w.heap.size ≤ m)
    (h : ∀ a2 c2 w2, Got B base x g n s q v (.slice a2 1 c2) w w2 → K (a.put o.dst (.slice a2 1 c2)) w2) : if Region.wanted o (yielded ops a.tmps) = true then Oper.wp Try.prog o a W K Q else E := by
  refine step_append_tail W hgd S X 76 ho base 80 (.pointer none) 8 underlying76 info80 rfl (.pointer (some ⟨p, 0, none⟩)) rfl v 0 [] hs hH.2.1 r hX (hr.cell (j := 0) rfl) (by decide) (by decide) (by have := hH.2.2.2.2; omega) ?_
  intro v2 w2 hT hg hvv
  obtain ⟨a2, c2, rfl, -⟩ := id hT
  have hQ := hH.1.grown hg (Ne.symm hx)
  exact h a2 c2 w2 ⟨hQ, hH.2.2.1.grown hg (fun e => absurd (hv _ e.symm).1 (by omega)), begin_close hx (fun k hk => ⟨(hv k hk).1, .inr (hv k hk).2⟩) hlx hBx hp hm hpw hmw hH.2.2.2.1 hT hg hvv hQ (by have := hH.2.2.2.2; omega)⟩
theorem map_kept {W w' : World} {o : Obj} (hb : Below (W.alloc o).heap.size (W.alloc o) w') : w'.heap[W.heap.size]? = some o := by rw [hb.block _ (by simp)]; exact heap_alloc_new W o
theorem heap_last (w : World) (o : Obj) : (w.alloc o).heap[w.heap.size]? = some o := heap_alloc_new w o
theorem step_beginA {B base x : Nat} {g n s q : Int} {v gs : Value} {w w' : World} (hx : v.ownBlock ≠ some x) (hv : ∀ k, v.ownBlock = some k → k < w.heap.size ∧ B ≤ k) (hlx : x < w.heap.size) (hBx : B ≤ x) (hbase : base ≤ w.heap.size) (hBs : B ≤ w.heap.size)
    {ops : Array Oper} {o : Oper} {a : Act} {K : Act → World → Prop} {Q : Exit → Act → World → Prop} {E : Prop} (hgd : o.guard = none) (S X : Operand)
    (ho : o.op = .call { callee := .builtin .append, args := #[S, X], argTypes := #[76, 76] }) (hs : a.eval S = v) (hX : a.eval X = .slice (some ⟨w'.heap.size + 1 + 1, 0, none⟩) 1 1)
    (hH : Held B base x g n s q v w w') (h : ∀ a2 c2 w2, Got B base x g n s q v (.slice a2 1 c2) w w2 → K (a.put o.dst (.slice a2 1 c2)) w2) :
    if Region.wanted o (yielded ops a.tmps) = true then Oper.wp Try.prog o a (((w'.alloc (.map #[] 0)).alloc (.cells (encOne s q gs (n + 1) (.map (some w'.heap.size)) true).toArray 84)).alloc (.cells #[.pointer (some ⟨w'.heap.size + 1, 0, none⟩)] 80)) K Q else E := by
  have e1 : (w'.alloc (.map #[] 0)).heap.size = w'.heap.size + 1 := by simp
  have hp := VarAt.new (w'.alloc (.map #[] 0)) 84 (encOne s q gs (n + 1) (.map (some w'.heap.size)) true)
  have hr := VarAt.new ((w'.alloc (.map #[] 0)).alloc (.cells (encOne s q gs (n + 1) (.map (some w'.heap.size)) true).toArray 84)) 80 [.pointer (some ⟨w'.heap.size + 1, 0, none⟩)]
  rw [e1] at hp
  rw [World.size_alloc, e1] at hr
  have hl := hH.2.2.2.2
  refine step_begin hx hv hlx hBx hbase hgd S X ho hs hX (((hH.alloc hBs _).alloc hBs _).alloc hBs _) (hp.alloc _) ?_ hr (by omega) (by omega) h
  rw [Below.heap_alloc _ _ _ (by simp; omega), Below.heap_alloc _ _ _ (by simp)]
  exact heap_alloc_new _ _
theorem step_beginB {B base x m : Nat} {g n s q : Int} {v gs : Value} {w w' : World} (hx : v.ownBlock ≠ some x) (hv : ∀ k, v.ownBlock = some k → k < w.heap.size ∧ B ≤ k) (hlx : x < w.heap.size) (hBx : B ≤ x) (hbase : base ≤ w.heap.size) (hBs : B ≤ w.heap.size)
    {ops : Array Oper} {o : Oper} {a : Act} {K : Act → World → Prop} {Q : Exit → Act → World → Prop} {E : Prop} (hgd : o.guard = none) (S X : Operand)
    (ho : o.op = .call { callee := .builtin .append, args := #[S, X], argTypes := #[76, 76] }) (hs : a.eval S = v) (hX : a.eval X = .slice (some ⟨w'.heap.size + 1, 0, none⟩) 1 1)
    (hH : Held B base x g n s q v w w') (hm : w'.heap[m]? = some (.map #[] 0)) (hmw : w.heap.size ≤ m) (h : ∀ a2 c2 w2, Got B base x g n s q v (.slice a2 1 c2) w w2 → K (a.put o.dst (.slice a2 1 c2)) w2) :
    if Region.wanted o (yielded ops a.tmps) = true then Oper.wp Try.prog o a ((w'.alloc (.cells (encOne s q gs (n + 1) (.map (some m)) true).toArray 84)).alloc (.cells #[.pointer (some ⟨w'.heap.size, 0, none⟩)] 80)) K Q else E := by
  have hp := VarAt.new w' 84 (encOne s q gs (n + 1) (.map (some m)) true)
  have hr := VarAt.new (w'.alloc (.cells (encOne s q gs (n + 1) (.map (some m)) true).toArray 84)) 80 [.pointer (some ⟨w'.heap.size, 0, none⟩)]
  rw [World.size_alloc] at hr
  have hl := hH.2.2.2.2
  have hm1 : m < w'.heap.size := (Array.getElem?_eq_some_iff.1 hm).1
  refine step_begin hx hv hlx hBx hbase hgd S X ho hs hX (((hH.alloc hBs _).alloc hBs _)) (hp.alloc _) ?_ hr (by omega) hmw h
  rw [Below.heap_alloc _ _ _ (by simp; omega), Below.heap_alloc _ _ _ hm1]
  exact hm
set_option maxHeartbeats 2000000 in
set_option maxRecDepth 100000 in
theorem c11one (B base x : Nat) (g n : Int) (v : Value) (s q : Int) (b o c : Nat) (w : World) (hid : goodId s q = true) (hq : VarAt w x 78 [.int .i64 g, .int .u64 n, v]) (hT : Tail w base v 0 [])
    (hgs : w.cell? ⟨b, o, none⟩ = some (.int .i64 g)) (hx : v.ownBlock ≠ some x) (hv : ∀ k, v.ownBlock = some k → k < w.heap.size ∧ B ≤ k) (hbx : b ≠ x) (h0 : 0 ≤ g) (h1 : g < 4) (hn0 : 0 ≤ n) (hn : n < 4611686018427387904) (hB : B ≤ base) (hBx : B ≤ x) (hbase : base ≤ w.heap.size) :
    Calls Try.prog 11 #[.pointer (some ⟨x, 0, none⟩), .agg #[.int .i64 s, .int .i64 q], .slice (some ⟨b, o, none⟩) 1 c] w fun e w' => BeginEnd B base x g n s q w e w' := by
  refine gen (S := BeginEnd B base x g n s q w) fun R hR => ?_
  obtain ⟨a, cap, rfl, hl, hnc, hm, hnone, hpos⟩ := id hT
  have HC := Lib.hid (c32 s q)
  rw [hid] at HC
  have HT := Lib.hid hT
  have HX := Lib.hid hx
  have HQ := Lib.hid hq
  have f0 := hq.cell (j := 0) (u := .int .i64 g) rfl
  have f1 := hq.cell (j := 1) (u := .int .u64 n) rfl
  have f2 := hq.cell (j := 2) (u := .slice a 0 cap) rfl
  have z1 := hq.free 1
  have z2 := hq.free 2
  have hlx := hq.lt
  have hlx1 : x < w.heap.size + 1 := by omega
  have hlx2 : x < w.heap.size + 1 + 1 := by omega
  have hlb := World.block_lt_of_cell? w _ hgs
  have hw : IntKind.u64.wrap (n + 1) = n + 1 := by rw [IntWalk.u64_in _ (by omega)]
  clear hq hT hx hid hl hnc hm hnone hpos
  go_enter Try.func11, Try.ntmps11
  go_wp2_with (first
    | (go_at_call 32; (with_reducible refine (HC.out _).mono ?_); rintro e w' ⟨rfl, rfl⟩)
    | (go_at_call 33; (with_reducible refine (c33one _ _ _ _ _ _ _ (Lib.cell?_alloc_some _ (Lib.cell?_alloc_some _ f0)) (Lib.cell?_alloc_some _ (Lib.cell?_alloc_some _ hgs)) h0 h1).mono ?_); rintro e w' ⟨rfl, rfl⟩)
    | (go_at_call 34; (with_reducible refine (c34none _ _ _ _ _ _ _ (Lib.cell?_alloc_some _ (Lib.cell?_alloc_some _ f2))).mono ?_); rintro e w' ⟨rfl, rfl⟩))
  clear f0 f1 f2 z1 z2 hlx1 hlx2 hw
  generalize hW : (World.alloc _ _) = W0
  have HQ0 : VarAt W0 x 78 [.int .i64 g, .int .u64 (n + 1), .slice a 0 cap] := by rw [← hW]; exact (((HQ.out.set 1 (.int .u64 (n + 1))).alloc _).alloc _).alloc _
  have HI0 : VarAt W0 w.heap.size 31 [.int .i64 s, .int .i64 q] := by
    rw [← hW]
    have := ((VarAt.new (w.setCell ⟨x, 1, none⟩ (.int .u64 (n + 1))) 31 [.int .i64 s, .int .i64 q]).alloc (.cells #[.int .i64 s, .int .i64 q] 31)).alloc (.cells #[.int .i64 s, .int .i64 q] 31)
    simpa using this
  have HT0 : Tail W0 base (.slice a 0 cap) 0 [] := by rw [← hW]; exact ((((HT.out.other (a := ⟨x, 1, none⟩) HX.out _).alloc _).alloc _).alloc _)
  have HB0 : Below B w W0 := by rw [← hW]; exact (((Below.setCell (Below.refl B w) (p := ⟨x, 1, none⟩) hBx (.int .u64 (n + 1))).alloc (by simp; omega) _).alloc (by simp; omega) _).alloc (by simp; omega) _
  have hsz : W0.heap.size = w.heap.size + 1 + 1 + 1 := by rw [← hW]; simp
  have HG0 : W0.cell? ⟨b, o, none⟩ = some (.int .i64 g) := by
    rw [← hW]
    refine Lib.cell?_alloc_some _ (Lib.cell?_alloc_some _ (Lib.cell?_alloc_some _ ?_))
    rw [World.cell?_setCell_other _ _ _ _ (by intro e; injection e with e1 _; omega)]; exact hgs
  have q1 := HQ0.cell (j := 1) (u := .int .u64 (n + 1)) rfl
  have q2 := HQ0.cell (j := 2) (u := .slice a 0 cap) rfl
  have zz := HQ0.free 2
  have i0 := HI0.cell (j := 0) (u := .int .i64 s) rfl
  have i1 := HI0.cell (j := 1) (u := .int .i64 q) rfl
  have hl0 : x < W0.heap.size := by omega
  have hl1 : x < W0.heap.size + 1 := by omega
  have hl2 : w.heap.size < W0.heap.size := by omega
  have hl3 : w.heap.size < W0.heap.size + 1 := by omega
  have KH := Lib.hid (show Held B base x g n s q (.slice a 0 cap) w W0 from ⟨HQ0, HT0, HI0, HB0, by omega⟩)
  have hBs : B ≤ w.heap.size := by omega
  have hneI : w.heap.size ≠ (⟨x, 2, none⟩ : Addr).block := by show w.heap.size ≠ x; omega
  clear hsz hW HQ0 HI0 HT0 HB0 hgs HT HQ
  have hmk : ∀ w, (Instr.makeMap 82 none).run Try.prog w = .ok (.map (some w.heap.size)) (w.alloc (.map #[] 0)) := fun _ => rfl
  refine wp_region_noPanic ?_
  refine till_start (BegS x w.heap.size n s q (.slice a 0 cap)) 22 (by kernel_rfl) ?_
  have hH0 : Held B base x g n s q (.slice a 0 cap) w W0.drew := KH.out.drewN 1
  have hS := hH0.begS
  show AnyTill _ _ _ _ _ _ 23 (Array.replicate 23 false) _ _
  refine till_take 0 (v := ?_) rfl (by kernel_rfl) (fun _ _ _ h => h) (Or.inl ⟨by rfl, ?_⟩) hS ?_
  rotate_left
  focus (intro w' hSw; obtain ⟨hs1, hs2, hs3, hs4⟩ := hSw; go_simp; try (with_reducible rfl))
  try simp only [Act.put, List.setIfInBounds_toArray, List.set_cons_zero, List.set_cons_succ]
  refine till_take 1 (v := ?_) rfl (by kernel_rfl) (fun _ _ _ h => h) (Or.inl ⟨by rfl, ?_⟩) hS ?_
  rotate_left
  focus (intro w' hSw; obtain ⟨hs1, hs2, hs3, hs4⟩ := hSw; go_simp; try (with_reducible rfl))
  try simp only [Act.put, List.setIfInBounds_toArray, List.set_cons_zero, List.set_cons_succ]
  refine till_take 2 (v := ?_) rfl (by kernel_rfl) (fun _ _ _ h => h) (Or.inl ⟨by rfl, ?_⟩) hS ?_
  rotate_left
  focus (intro w' hSw; obtain ⟨hs1, hs2, hs3, hs4⟩ := hSw; go_simp; try (with_reducible rfl))
  try simp only [Act.put, List.setIfInBounds_toArray, List.set_cons_zero, List.set_cons_succ]
  refine till_take 3 (v := ?_) rfl (by kernel_rfl) (fun _ _ _ h => h) (Or.inl ⟨by rfl, ?_⟩) hS ?_
  rotate_left
  focus (intro w' hSw; obtain ⟨hs1, hs2, hs3, hs4⟩ := hSw; go_simp; try (with_reducible rfl))
  try simp only [Act.put, List.setIfInBounds_toArray, List.set_cons_zero, List.set_cons_succ]
  refine till_take 4 (v := ?_) rfl (by kernel_rfl) (fun _ _ _ h => h) (Or.inl ⟨by rfl, ?_⟩) hS ?_
  rotate_left
  focus (intro w' hSw; obtain ⟨hs1, hs2, hs3, hs4⟩ := hSw; go_simp; try (with_reducible rfl))
  try simp only [Act.put, List.setIfInBounds_toArray, List.set_cons_zero, List.set_cons_succ]
  refine till_take 5 (v := ?_) rfl (by kernel_rfl) (fun _ _ _ h => h) (Or.inl ⟨by rfl, ?_⟩) hS ?_
  rotate_left
  focus (intro w' hSw; obtain ⟨hs1, hs2, hs3, hs4⟩ := hSw; go_simp; try (with_reducible rfl))
  try simp only [Act.put, List.setIfInBounds_toArray, List.set_cons_zero, List.set_cons_succ]
  refine till_take 6 (v := ?_) rfl (by kernel_rfl) (fun _ _ _ h => h) (Or.inl ⟨by rfl, ?_⟩) hS ?_
  rotate_left
  focus (intro w' hSw; obtain ⟨hs1, hs2, hs3, hs4⟩ := hSw; go_simp; try (with_reducible rfl))
  try simp only [Act.put, List.setIfInBounds_toArray, List.set_cons_zero, List.set_cons_succ]
  refine till_take 8 (v := ?_) rfl (by kernel_rfl) (fun _ _ _ h => h) (Or.inl ⟨by rfl, ?_⟩) hS ?_
  rotate_left
  focus (intro w' hSw; obtain ⟨hs1, hs2, hs3, hs4⟩ := hSw; go_simp; try (with_reducible rfl))
  try simp only [Act.put, List.setIfInBounds_toArray, List.set_cons_zero, List.set_cons_succ]
  refine till_take 9 (v := ?_) rfl (by kernel_rfl) (fun _ _ _ h => h) (Or.inl ⟨by rfl, ?_⟩) hS ?_
  rotate_left
  focus (intro w' hSw; obtain ⟨hs1, hs2, hs3, hs4⟩ := hSw; go_simp; try (with_reducible rfl))
  try simp only [Act.put, List.setIfInBounds_toArray, List.set_cons_zero, List.set_cons_succ]
  refine till_take 10 (v := ?_) rfl (by kernel_rfl) (fun _ _ _ h => h) (Or.inl ⟨by rfl, ?_⟩) hS ?_
  rotate_left
  focus (intro w' hSw; obtain ⟨hs1, hs2, hs3, hs4⟩ := hSw; go_simp; try (with_reducible rfl))
  try simp only [Act.put, List.setIfInBounds_toArray, List.set_cons_zero, List.set_cons_succ]
  refine till_take 11 (v := ?_) rfl (by kernel_rfl) (fun _ _ _ h => h) (Or.inl ⟨by rfl, ?_⟩) hS ?_
  rotate_left
  focus (intro w' hSw; obtain ⟨hs1, hs2, hs3, hs4⟩ := hSw; go_simp; try (with_reducible rfl))
  try simp only [Act.put, List.setIfInBounds_toArray, List.set_cons_zero, List.set_cons_succ]
  refine till_take 13 (v := ?_) rfl (by kernel_rfl) (fun _ _ _ h => h) (Or.inl ⟨by rfl, ?_⟩) hS ?_
  rotate_left
  focus (intro w' hSw; obtain ⟨hs1, hs2, hs3, hs4⟩ := hSw; go_simp; try (with_reducible rfl))
  try simp only [Act.put, List.setIfInBounds_toArray, List.set_cons_zero, List.set_cons_succ]
  refine till_take 14 (v := ?_) rfl (by kernel_rfl) (fun _ _ _ h => h) (Or.inl ⟨by rfl, ?_⟩) hS ?_
  rotate_left
  focus (intro w' hSw; obtain ⟨hs1, hs2, hs3, hs4⟩ := hSw; go_simp; try (with_reducible rfl))
  try simp only [Act.put, List.setIfInBounds_toArray, List.set_cons_zero, List.set_cons_succ]
  refine till_take 15 (v := ?_) rfl (by kernel_rfl) (fun _ _ _ h => h) (Or.inl ⟨by rfl, ?_⟩) hS ?_
  rotate_left
  focus (intro w' hSw; obtain ⟨hs1, hs2, hs3, hs4⟩ := hSw; go_simp; try (with_reducible rfl))
  try simp only [Act.put, List.setIfInBounds_toArray, List.set_cons_zero, List.set_cons_succ]
  refine till_ready [7, 12] (by kernel_rfl) ?_
  refine TillReady.cons 7 rfl (fun K hK => ?_) (TillReady.cons 12 rfl (fun K hK => ?_) TillReady.nil)
  · go_simp
    refine (c35one b o c g W0.drew HG0).mono ?_
    rintro e w' ⟨ga, gn, gc, rfl, hb⟩
    have hH := hH0.below hBs hb
    have hS := hH.begS
    refine (Hid.out hK) _ _ (fun _ => hS) ?_
    try simp only [Act.put, List.setIfInBounds_toArray, List.set_cons_zero, List.set_cons_succ]
    refine till_ready [12] (by kernel_rfl) (TillReady.cons 12 rfl (fun K hK => ?_) TillReady.nil)
    go_simp
    have hH := hH.alloc hBs (.map #[] 0)
    have hS := hH.begS
    refine (Hid.out hK) _ _ (fun _ => hS) ?_
    try simp only [Act.put, List.setIfInBounds_toArray, List.set_cons_zero, List.set_cons_succ]
    refine till_take 16 (v := ?_) rfl (by kernel_rfl) (fun _ _ _ h => h) (Or.inl ⟨by rfl, ?_⟩) hS ?_
    rotate_left
    focus (intro w' hSw; obtain ⟨hs1, hs2, hs3, hs4⟩ := hSw; go_simp; try (with_reducible rfl))
    try simp only [Act.put, List.setIfInBounds_toArray, List.set_cons_zero, List.set_cons_succ]
    refine till_ready [17] (by kernel_rfl) (TillReady.cons 17 rfl (fun K hK => ?_) TillReady.nil)
    go_simp
    have hH := hH.alloc hBs (.cells #[.int .i64 s, .int .i64 q, .slice ga gn gc, .int .u64 (n + 1), .map (some w'.heap.size), .bool true] 84)
    have hS := hH.begS
    refine (Hid.out hK) _ _ (fun _ => hS) ?_
    try simp only [Act.put, List.setIfInBounds_toArray, List.set_cons_zero, List.set_cons_succ]
    refine till_ready [18] (by kernel_rfl) (TillReady.cons 18 rfl (fun K hK => ?_) TillReady.nil)
    go_simp
    have hH := hH.alloc hBs (.cells #[.pointer (some ⟨w'.heap.size + 1, 0, none⟩)] 80)
    have hS := hH.begS
    refine (Hid.out hK) _ _ (fun _ => hS) ?_
    try simp only [Act.put, List.setIfInBounds_toArray, List.set_cons_zero, List.set_cons_succ]
    refine till_ready [19] (by kernel_rfl) (TillReady.cons 19 rfl (fun K hK => ?_) TillReady.nil)
    refine step_beginA HX.out hv hlx hBx hbase hBs (by rfl) _ _ (by rfl) (by rfl) (by rfl) (hH0.below hBs hb) ?_
    intro a2 c2 w2 hQ2
    have hc2 := hQ2.1.cell (j := 2) rfl
    have hz2 := hQ2.1.free 2
    have hQ3 := hQ2.1.set 2 (.slice a2 1 c2)
    have hS : BegS x w.heap.size n s q (.slice a 0 cap) w2 := ⟨hQ2.1.cell (j := 1) rfl, hQ2.2.1.cell (j := 0) rfl, hQ2.2.1.cell (j := 1) rfl, hQ2.1.cell (j := 2) rfl⟩
    refine (Hid.out hK) _ _ (fun _ => hS) ?_
    try simp only [Act.put, List.setIfInBounds_toArray, List.set_cons_zero, List.set_cons_succ]
    refine till_take 20 (v := ?_) rfl (by kernel_rfl) (fun _ _ _ h => h) (Or.inl ⟨by rfl, ?_⟩) hS ?_
    rotate_left
    focus (intro w' hSw; obtain ⟨hs1, hs2, hs3, hs4⟩ := hSw; go_simp; try (with_reducible rfl))
    try simp only [Act.put, List.setIfInBounds_toArray, List.set_cons_zero, List.set_cons_succ]
    refine till_take 21 (v := ?_) rfl (by kernel_rfl) (fun _ _ _ h => h) (Or.inl ⟨by rfl, ?_⟩) hS ?_
    rotate_left
    focus (intro w' hSw; obtain ⟨hs1, hs2, hs3, hs4⟩ := hSw; go_simp; try (with_reducible rfl))
    try simp only [Act.put, List.setIfInBounds_toArray, List.set_cons_zero, List.set_cons_succ]
    refine till_ready [22] (by kernel_rfl) (TillReady.cons 22 rfl (fun K hK => ?_) TillReady.nil)
    go_simp
    refine (Hid.out hK) _ _ (fun h => absurd rfl h) ?_
    refine till_done (by kernel_rfl) ?_
    refine NoPanic.normal ?_
    have HE := Lib.hid hQ2.2.2
    have hc4 := hQ3.cell (j := 1) (u := .int .u64 (n + 1)) rfl
    have hc5 := hQ2.1.cell (j := 1) (u := .int .u64 (n + 1)) rfl
    clear hc2 hz2 hQ2 hS
    go_wp2_with (go_at_call 36; (with_reducible refine (c36one x g (n + 1) a2 c2 _ hQ3).mono ?_); rintro e w' ⟨rfl, rfl⟩)
    exact HE.out
  · go_simp
    have hH := hH0.alloc hBs (.map #[] 0)
    have hS := hH.begS
    refine (Hid.out hK) _ _ (fun _ => hS) ?_
    try simp only [Act.put, List.setIfInBounds_toArray, List.set_cons_zero, List.set_cons_succ]
    refine till_ready [7] (by kernel_rfl) (TillReady.cons 7 rfl (fun K hK => ?_) TillReady.nil)
    go_simp
    refine (c35one b o c g (W0.drew.alloc (.map #[] 0)) (Lib.cell?_alloc_some _ HG0)).mono ?_
    rintro e w' ⟨ga, gn, gc, rfl, hb⟩
    have hH := hH.below hBs hb
    have hH1 := hH
    have hS := hH.begS
    refine (Hid.out hK) _ _ (fun _ => hS) ?_
    try simp only [Act.put, List.setIfInBounds_toArray, List.set_cons_zero, List.set_cons_succ]
    refine till_take 16 (v := ?_) rfl (by kernel_rfl) (fun _ _ _ h => h) (Or.inl ⟨by rfl, ?_⟩) hS ?_
    rotate_left
    focus (intro w' hSw; obtain ⟨hs1, hs2, hs3, hs4⟩ := hSw; go_simp; try (with_reducible rfl))
    try simp only [Act.put, List.setIfInBounds_toArray, List.set_cons_zero, List.set_cons_succ]
    refine till_ready [17] (by kernel_rfl) (TillReady.cons 17 rfl (fun K hK => ?_) TillReady.nil)
    go_simp
    have hH := hH.alloc hBs (.cells #[.int .i64 s, .int .i64 q, .slice ga gn gc, .int .u64 (n + 1), .map (some W0.heap.size), .bool true] 84)
    have hS := hH.begS
    refine (Hid.out hK) _ _ (fun _ => hS) ?_
    try simp only [Act.put, List.setIfInBounds_toArray, List.set_cons_zero, List.set_cons_succ]
    refine till_ready [18] (by kernel_rfl) (TillReady.cons 18 rfl (fun K hK => ?_) TillReady.nil)
    go_simp
    have hH := hH.alloc hBs (.cells #[.pointer (some ⟨w'.heap.size, 0, none⟩)] 80)
    have hS := hH.begS
    refine (Hid.out hK) _ _ (fun _ => hS) ?_
    try simp only [Act.put, List.setIfInBounds_toArray, List.set_cons_zero, List.set_cons_succ]
    refine till_ready [19] (by kernel_rfl) (TillReady.cons 19 rfl (fun K hK => ?_) TillReady.nil)
    refine step_beginB (m := W0.heap.size) HX.out hv hlx hBx hbase hBs (by rfl) _ _ (by rfl) (by rfl) (by rfl) hH1 (map_kept (W := W0.drew) hb) (by omega) ?_
    intro a2 c2 w2 hQ2
    have hc2 := hQ2.1.cell (j := 2) rfl
    have hz2 := hQ2.1.free 2
    have hQ3 := hQ2.1.set 2 (.slice a2 1 c2)
    have hS : BegS x w.heap.size n s q (.slice a 0 cap) w2 := ⟨hQ2.1.cell (j := 1) rfl, hQ2.2.1.cell (j := 0) rfl, hQ2.2.1.cell (j := 1) rfl, hQ2.1.cell (j := 2) rfl⟩
    refine (Hid.out hK) _ _ (fun _ => hS) ?_
    try simp only [Act.put, List.setIfInBounds_toArray, List.set_cons_zero, List.set_cons_succ]
    refine till_take 20 (v := ?_) rfl (by kernel_rfl) (fun _ _ _ h => h) (Or.inl ⟨by rfl, ?_⟩) hS ?_
    rotate_left
    focus (intro w' hSw; obtain ⟨hs1, hs2, hs3, hs4⟩ := hSw; go_simp; try (with_reducible rfl))
    try simp only [Act.put, List.setIfInBounds_toArray, List.set_cons_zero, List.set_cons_succ]
    refine till_take 21 (v := ?_) rfl (by kernel_rfl) (fun _ _ _ h => h) (Or.inl ⟨by rfl, ?_⟩) hS ?_
    rotate_left
    focus (intro w' hSw; obtain ⟨hs1, hs2, hs3, hs4⟩ := hSw; go_simp; try (with_reducible rfl))
    try simp only [Act.put, List.setIfInBounds_toArray, List.set_cons_zero, List.set_cons_succ]
    refine till_ready [22] (by kernel_rfl) (TillReady.cons 22 rfl (fun K hK => ?_) TillReady.nil)
    go_simp
    refine (Hid.out hK) _ _ (fun h => absurd rfl h) ?_
    refine till_done (by kernel_rfl) ?_
    refine NoPanic.normal ?_
    have HE := Lib.hid hQ2.2.2
    have hc4 := hQ3.cell (j := 1) (u := .int .u64 (n + 1)) rfl
    have hc5 := hQ2.1.cell (j := 1) (u := .int .u64 (n + 1)) rfl
    clear hc2 hz2 hQ2 hS
    go_wp2_with (go_at_call 36; (with_reducible refine (c36one x g (n + 1) a2 c2 _ hQ3).mono ?_); rintro e w' ⟨rfl, rfl⟩)
    exact HE.out
end Go.Proofs.Ytamjdghjaimihaa
