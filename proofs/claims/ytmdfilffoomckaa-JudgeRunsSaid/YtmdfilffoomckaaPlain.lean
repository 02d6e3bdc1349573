/- A history as the reference has it: a copy. Conditions: each law's own. -/
import Derived.Test.YtmdfilffoomckaaAhead
namespace Go.Proofs.Ytmdfilffoomckaa
open Go.ChangeShapes Go.WideShapes Go.ChangeAt Go.RowKit

theorem underlying31 : Try.prog.underlying 31 = some (.slice 79) := by kernel_rfl
theorem underlying32 : Try.prog.underlying 32 = some (.slice 80) := by kernel_rfl
theorem info79 : (Try.prog.info? 79).map (fun i => (i.zero, i.size, i.bytes)) = some (some (.agg #[.int .i64 0, .int .i64 0, .string ⟨#[]⟩, .int .i64 0, .int .u64 0, .string ⟨#[]⟩]), 6, 64) := by kernel_rfl
theorem info80 : (Try.prog.info? 80).map (fun i => (i.zero, i.size, i.bytes)) = some (some (.agg #[.int .i64 0, .int .u64 0, .int .u64 0, .slice none 0 0, .slice none 0 0]), 5, 72) := by kernel_rfl
theorem owns_ne {w : World} {b b' e e' k k' n n' : Nat} {v v' : Value} {xs xs' : List Value} (h : w.ownsRow b e k v n xs) (h' : w.ownsRow b' e' k' v' n' xs') (he : e ≠ e') : v.ownBlock = none ∨ v.ownBlock ≠ v'.ownBlock := by
  obtain ⟨_, ⟨rfl, _⟩ | ⟨g, cap, cur, rfl, _, hg, _⟩⟩ := h
  · exact .inl rfl
  · obtain ⟨_, ⟨rfl, _⟩ | ⟨g', cap', cur', rfl, _, hg', _⟩⟩ := h'
    · exact .inr (by simp [Value.ownBlock])
    · refine .inr fun e => ?_
      simp only [Value.ownBlock, Option.map_some, Option.some.injEq] at e
      subst e
      rw [hg] at hg'
      injection hg' with h1
      injection h1 with _ h2
      exact he h2
theorem owns_set {w : World} {b e k n : Nat} {v : Value} {xs : List Value} (h : w.ownsRow b e k v n xs) {a : Addr} (ha : a.block < b) (u : Value) : (w.setCell a u).ownsRow b e k v n xs := by
  obtain ⟨h1, h2 | ⟨g, cap, cur, rfl, hb, hg, hr⟩⟩ := h
  · exact ⟨h1, .inl h2⟩
  · exact ⟨h1, .inr ⟨g, cap, cur, rfl, hb, by rw [Below.heap_setCell w a u g (by omega)]; exact hg, hr⟩⟩
/-- The copy, as far as it has come. -/
structure PlainAt (w : World) (h : HistD) (v1 v2 v3 : Value) (j1 j2 j3 : Nat) (W : World) : Prop where
  box : VarAt W w.heap.size 26 [h.dv, h.sv, h.nv]
  res : VarAt W (w.heap.size + 1) 34 [.slice none 0 0, .slice none 0 0, .slice none 0 0]
  out : VarAt W (w.heap.size + 2) 34 [v1, v2, v3]
  r1 : W.ownsRow (w.heap.size + 3) 45 6 v1 j1 ((h.done.take j1).flatMap encDone)
  r2 : W.ownsRow (w.heap.size + 3) 79 6 v2 j2 ((h.seen.take j2).flatMap encSeen)
  r3 : W.ownsRow (w.heap.size + 3) 80 5 v3 j3 ((h.snaps.take j3).flatMap encSnap)
  old : Below w.heap.size w W
theorem PlainAt.below {w W W' : World} {h : HistD} {v1 v2 v3 : Value} {j1 j2 j3 : Nat} (p : PlainAt w h v1 v2 v3 j1 j2 j3 W) (hb : Below W.heap.size W W') : PlainAt w h v1 v2 v3 j1 j2 j3 W' :=
  ⟨p.box.keep hb p.box.lt, p.res.keep hb p.res.lt, p.out.keep hb p.out.lt, ownsRow_below p.r1 hb, ownsRow_below p.r2 hb, ownsRow_below p.r3 hb, p.old.trans (hb.mono p.old.size)⟩
theorem grown_plain {w W W' : World} {h : HistD} {v1 v2 v3 : Value} {j1 j2 j3 : Nat} (p : PlainAt w h v1 v2 v3 j1 j2 j3 W) {row : Option Nat} (hg : W.grownBy W' row) (hr : ∀ k, row = some k → w.heap.size + 3 ≤ k) :
    VarAt W' w.heap.size 26 [h.dv, h.sv, h.nv] ∧ VarAt W' (w.heap.size + 1) 34 [.slice none 0 0, .slice none 0 0, .slice none 0 0] ∧ VarAt W' (w.heap.size + 2) 34 [v1, v2, v3] ∧ Below w.heap.size w W' := by
  refine ⟨p.box.grown hg fun e => ?_, p.res.grown hg fun e => ?_, p.out.grown hg fun e => ?_, p.old.grown hg p.old.size fun k hk => ?_⟩
  · have := hr _ e.symm; omega
  · have := hr _ e.symm; omega
  · have := hr _ e.symm; omega
  · have := hr k hk; omega
theorem take_flat {α : Type} {enc : α → List Value} {l : List α} {j : Nat} {x : α} (h : l[j]? = some x) : (l.take (j + 1)).flatMap enc = (l.take j).flatMap enc ++ enc x := by
  rw [List.take_add_one, h, List.flatMap_append]; simp
theorem PlainAt.push1 {w W W' : World} {h : HistD} {v1 v2 v3 v' : Value} {j1 j2 j3 : Nat} {x : DoneD} (p : PlainAt w h v1 v2 v3 j1 j2 j3 W) (hx : h.done[j1]? = some x) (ho : W'.ownsRow (w.heap.size + 3) 45 6 v' (j1 + 1) ((h.done.take j1).flatMap encDone ++ encDone x)) (hg : W.grownBy W' v1.ownBlock) :
    PlainAt w h v' v2 v3 (j1 + 1) j2 j3 (W'.setCell ⟨w.heap.size + 2, 0, none⟩ v') := by
  obtain ⟨g1, g2, g3, g4⟩ := grown_plain p hg fun k hk => (p.r1.lt k hk).1
  exact ⟨g1.other (by simp) _, g2.other (by simp) _, g3.set 0 v', by rw [take_flat hx]; exact owns_set ho (by simp) _, owns_set (p.r2.kept hg (owns_ne p.r2 p.r1 (by decide))) (by simp) _, owns_set (p.r3.kept hg (owns_ne p.r3 p.r1 (by decide))) (by simp) _, g4.setCell (by simp) _⟩
theorem PlainAt.push2 {w W W' : World} {h : HistD} {v1 v2 v3 v' : Value} {j1 j2 j3 : Nat} {x : SeenD} (p : PlainAt w h v1 v2 v3 j1 j2 j3 W) (hx : h.seen[j2]? = some x) (ho : W'.ownsRow (w.heap.size + 3) 79 6 v' (j2 + 1) ((h.seen.take j2).flatMap encSeen ++ encSeen x)) (hg : W.grownBy W' v2.ownBlock) :
    PlainAt w h v1 v' v3 j1 (j2 + 1) j3 (W'.setCell ⟨w.heap.size + 2, 1, none⟩ v') := by
  obtain ⟨g1, g2, g3, g4⟩ := grown_plain p hg fun k hk => (p.r2.lt k hk).1
  exact ⟨g1.other (by simp) _, g2.other (by simp) _, g3.set 1 v', owns_set (p.r1.kept hg (owns_ne p.r1 p.r2 (by decide))) (by simp) _, by rw [take_flat hx]; exact owns_set ho (by simp) _, owns_set (p.r3.kept hg (owns_ne p.r3 p.r2 (by decide))) (by simp) _, g4.setCell (by simp) _⟩
theorem PlainAt.push3 {w W W' : World} {h : HistD} {v1 v2 v3 v' : Value} {j1 j2 j3 : Nat} {x : SnapD} (p : PlainAt w h v1 v2 v3 j1 j2 j3 W) (hx : h.snaps[j3]? = some x) (ho : W'.ownsRow (w.heap.size + 3) 80 5 v' (j3 + 1) ((h.snaps.take j3).flatMap encSnap ++ encSnap x)) (hg : W.grownBy W' v3.ownBlock) :
    PlainAt w h v1 v2 v' j1 j2 (j3 + 1) (W'.setCell ⟨w.heap.size + 2, 2, none⟩ v') := by
  obtain ⟨g1, g2, g3, g4⟩ := grown_plain p hg fun k hk => (p.r3.lt k hk).1
  exact ⟨g1.other (by simp) _, g2.other (by simp) _, g3.set 2 v', owns_set (p.r1.kept hg (owns_ne p.r1 p.r3 (by decide))) (by simp) _, owns_set (p.r2.kept hg (owns_ne p.r2 p.r3 (by decide))) (by simp) _, by rw [take_flat hx]; exact owns_set ho (by simp) _, g4.setCell (by simp) _⟩
theorem PlainAt.len {w W : World} {h : HistD} {v1 v2 v3 : Value} {j1 j2 j3 : Nat} (p : PlainAt w h v1 v2 v3 j1 j2 j3 W) : (∃ a c, v1 = .slice a j1 c) ∧ (∃ a c, v2 = .slice a j2 c) ∧ ∃ a c, v3 = .slice a j3 c := ⟨owns_slice p.r1, owns_slice p.r2, owns_slice p.r3⟩
/-- The copy is a history of its own, with the same lists. -/
theorem hist_of {w W : World} {h : HistD} {v1 v2 v3 : Value} (q1 : W.ownsRow (w.heap.size + 3) 45 6 v1 h.done.length ((h.done.take h.done.length).flatMap encDone)) (q2 : W.ownsRow (w.heap.size + 3) 79 6 v2 h.seen.length ((h.seen.take h.seen.length).flatMap encSeen))
    (q3 : W.ownsRow (w.heap.size + 3) 80 5 v3 h.snaps.length ((h.snaps.take h.snaps.length).flatMap encSnap)) (old : Below w.heap.size w W) (ok : HistOk w h) : ∃ h' : HistD, h'.done = h.done ∧ h'.seen = h.seen ∧ h'.snaps = h.snaps ∧ HistOk W h' ∧ h'.agg = .agg #[v1, v2, v3] := by
  obtain ⟨a1, c1, rfl⟩ := owns_slice q1
  obtain ⟨a2, c2, rfl⟩ := owns_slice q2
  obtain ⟨a3, c3, rfl⟩ := owns_slice q3
  rw [List.take_length] at q1 q2 q3
  have hk := ok.keep old
  exact ⟨⟨h.done, h.seen, h.snaps, a1, c1, a2, c2, a3, c3⟩, rfl, rfl, rfl, ⟨RowOf.of_owns (fun _ => rfl) q1 rfl, RowOf.of_owns (fun _ => rfl) q2 rfl, RowOf.of_owns (fun _ => rfl) q3 rfl, hk.2.2.2.1, hk.2.2.2.2⟩, rfl⟩
def PlainEnd (w : World) (h : HistD) (e : Ending) (W : World) : Prop := ∃ h' : HistD, e = .returned h'.agg ∧ h'.done = h.done ∧ h'.seen = h.seen ∧ h'.snaps = h.snaps ∧ HistOk W h' ∧ Below w.heap.size w W
def PR (w : World) (h : HistD) (k : Nat) (i : Value) (W : World) : Prop := match k with
  | 0 => ∃ j v, j ≤ h.done.length ∧ i = .int .i64 (j : Nat) ∧ PlainAt w h v (.slice none 0 0) (.slice none 0 0) j 0 0 W
  | 1 => ∃ j v1 v, j ≤ h.seen.length ∧ i = .int .i64 (j : Nat) ∧ PlainAt w h v1 v (.slice none 0 0) h.done.length j 0 W
  | _ => ∃ j v1 v2 v, j ≤ h.snaps.length ∧ i = .int .i64 (j : Nat) ∧ PlainAt w h v1 v2 v h.done.length h.seen.length j W
theorem enc6 (x : DoneD) : (encDone x).length = 6 := rfl
def PS0 (B : Nat) (src dst : Value) (b o : Nat) (x : DoneD) (W : World) : Prop := W.cell? ⟨B, 0, none⟩ = some src ∧ W.cell? ⟨B + 2, 0, none⟩ = some dst ∧ W.cell? ⟨b, o, none⟩ = some (.int .i64 x.txn.id.s) ∧ W.cell? ⟨b, o + 1, none⟩ = some (.int .i64 x.txn.id.q) ∧ W.cell? ⟨b, o + 2, none⟩ = some (x.txn.rv) ∧ W.cell? ⟨b, o + 3, none⟩ = some (x.txn.wv) ∧ W.cell? ⟨b, o + 4, none⟩ = some (.bool x.yes) ∧ W.cell? ⟨b, o + 5, none⟩ = some (.int .u64 x.stamp)
def PS1 (B : Nat) (src dst : Value) (b o : Nat) (x : SeenD) (W : World) : Prop := W.cell? ⟨B, 1, none⟩ = some src ∧ W.cell? ⟨B + 2, 1, none⟩ = some dst ∧ W.cell? ⟨b, o, none⟩ = some (.int .i64 x.id.s) ∧ W.cell? ⟨b, o + 1, none⟩ = some (.int .i64 x.id.q) ∧ W.cell? ⟨b, o + 2, none⟩ = some (.string x.key) ∧ W.cell? ⟨b, o + 3, none⟩ = some (.int .i64 x.val.kind) ∧ W.cell? ⟨b, o + 4, none⟩ = some (.int .u64 x.val.bits) ∧ W.cell? ⟨b, o + 5, none⟩ = some (.string x.val.text)
def PS2 (B : Nat) (src dst : Value) (b o : Nat) (x : SnapD) (W : World) : Prop := W.cell? ⟨B, 2, none⟩ = some src ∧ W.cell? ⟨B + 2, 2, none⟩ = some dst ∧ W.cell? ⟨b, o, none⟩ = some (.int .i64 x.session) ∧ W.cell? ⟨b, o + 1, none⟩ = some (.int .u64 x.stamp) ∧ W.cell? ⟨b, o + 2, none⟩ = some (.int .u64 x.floor) ∧ W.cell? ⟨b, o + 3, none⟩ = some (x.kv) ∧ W.cell? ⟨b, o + 4, none⟩ = some (x.vv)
set_option maxHeartbeats 8000000 in
set_option maxRecDepth 100000 in
theorem c10 {w : World} {h : HistD} (ok : HistOk w h) (h1 : h.done.length ≤ 30) (h2 : h.seen.length ≤ 30) (h3 : h.snaps.length ≤ 10) : Calls Try.prog 10 #[h.agg] w (PlainEnd w h) := by
  refine gen (S := PlainEnd w h) fun R hR => ?_
  have HOK := Lib.hid ok
  obtain ⟨ds, seen, snaps, da, dc, sa, sc, na, nc⟩ := h
  have HR0 := Lib.hid ok.1
  have HR1 := Lib.hid ok.2.1
  have HR2 := Lib.hid ok.2.2.1
  have hini : PlainAt w ⟨ds, seen, snaps, da, dc, sa, sc, na, nc⟩ (.slice none 0 0) (.slice none 0 0) (.slice none 0 0) 0 0 0 (((w.alloc (.cells #[.slice da ds.length dc, .slice sa seen.length sc, .slice na snaps.length nc] 26)).alloc (.cells #[.slice none 0 0, .slice none 0 0, .slice none 0 0] 34)).alloc (.cells #[.slice none 0 0, .slice none 0 0, .slice none 0 0] 34)) :=
    ⟨((VarAt.new w 26 [.slice da ds.length dc, .slice sa seen.length sc, .slice na snaps.length nc]).alloc _).alloc _, (VarAt.new1 w _ 34 _).alloc _, VarAt.new2 w _ _ 34 [.slice none 0 0, .slice none 0 0, .slice none 0 0], World.ownsRow_nil _ _ _ _, World.ownsRow_nil _ _ _ _, World.ownsRow_nil _ _ _ _, below3 _ _ _ _⟩
  have HINI := Lib.hid hini
  simp only [HistD.agg, HistD.dv, HistD.sv, HistD.nv] at HR0 HR1 HR2 h1 h2 h3 ⊢
  clear ok hini
  go_enter Try.func10, Try.ntmps10
  go_wp2
  go_loopw [4] (fun i wr => PR w ⟨ds, seen, snaps, da, dc, sa, sc, na, nc⟩ 0 i wr) (fun i _ => ds.length - (intOf i).toNat)
  case atStart => exact ⟨0, _, Nat.zero_le _, rfl, HINI.out⟩
  case round =>
    obtain ⟨j, v, hj, rfl, hp⟩ := hrel
    simp only at hj
    have c0 := hp.box.cell (j := 0) rfl
    simp only [HistD.dv, HistD.sv, HistD.nv] at c0
    have hbl := hp.box.lt
    have HP := Lib.hid hp
    rcases Nat.lt_or_ge j ds.length with hlt | hge
    · obtain ⟨b, o, x, rfl, hbx, hx, hc0, hc1, hc2, hc3, hc4, hc5⟩ := HR0.out.doneAt hlt
      have c1 := hp.out.cell (j := 0) rfl
      obtain ⟨va, vc, rfl⟩ := owns_slice hp.r1
      have hol := hp.out.lt
      have hfo := hp.out.free 0
      have hjI : (j : Int) < (ds.length : Int) := by omega
      have HX := Lib.hid hx
      have HC := Lib.hid (show w.cell? ⟨b, o + j * 6, none⟩ = some (.int .i64 x.txn.id.s) ∧ w.cell? ⟨b, o + j * 6 + 1, none⟩ = some (.int .i64 x.txn.id.q) ∧ w.cell? ⟨b, o + j * 6 + 2, none⟩ = some (x.txn.rv) ∧ w.cell? ⟨b, o + j * 6 + 3, none⟩ = some (x.txn.wv) ∧ w.cell? ⟨b, o + j * 6 + 4, none⟩ = some (.bool x.yes) ∧ w.cell? ⟨b, o + j * 6 + 5, none⟩ = some (.int .u64 x.stamp) from ⟨hc0, hc1, hc2, hc3, hc4, hc5⟩)
      have hbw : b < wr.heap.size := Nat.lt_of_lt_of_le hbx hp.old.size
      have sk : ∀ W, Below wr.heap.size wr W → PS0 w.heap.size (.slice (some ⟨b, o, none⟩) ds.length dc) (.slice va j vc) b (o + j * 6) x W := fun W hb => by
        have hP2 := hp.below hb
        have hW := hP2.old
        refine ⟨hP2.box.cell (j := 0) rfl, hP2.out.cell (j := 0) rfl, by rw [hW.cell (p := ⟨b, o + j * 6, none⟩) hbx]; exact hc0, by rw [hW.cell (p := ⟨b, o + j * 6 + 1, none⟩) hbx]; exact hc1, by rw [hW.cell (p := ⟨b, o + j * 6 + 2, none⟩) hbx]; exact hc2, by rw [hW.cell (p := ⟨b, o + j * 6 + 3, none⟩) hbx]; exact hc3, by rw [hW.cell (p := ⟨b, o + j * 6 + 4, none⟩) hbx]; exact hc4, by rw [hW.cell (p := ⟨b, o + j * 6 + 5, none⟩) hbx]; exact hc5⟩
      have HSK := Lib.hid sk
      clear sk hc0 hc1 hc2 hc3 hc4 hc5 hx hp
      have hS0 : Below wr.heap.size wr wr := Below.refl _ _
      have hS1 : Below wr.heap.size wr (wr.drew.alloc (.cells (encDone x).toArray 45)) := hS0.drew.alloc (Nat.le_refl _) _
      go_wp2
      refine wp_region_noPanic ?_
      refine till_start (PS0 w.heap.size (.slice (some ⟨b, o, none⟩) ds.length dc) (.slice va j vc) b (o + j * 6) x) 10 (by kernel_rfl) ?_
      have hS := HSK.out wr.drew hS0.drew
      show AnyTill _ _ _ _ _ _ 11 (Array.replicate 11 false) _ _
      refine till_take 0 (v := ?_) rfl (by kernel_rfl) (fun _ _ _ h => h) (Or.inl ⟨by rfl, ?_⟩) hS ?_
      rotate_left
      focus (intro w' hSw; obtain ⟨hs0, hs1, hs2, hs3, hs4, hs5, hs6, hs7⟩ := hSw; go_simp; try (with_reducible rfl))
      try simp only [Act.put, List.setIfInBounds_toArray, List.set_cons_zero, List.set_cons_succ]
      refine till_take 1 (v := ?_) rfl (by kernel_rfl) (fun _ _ _ h => h) (Or.inl ⟨by rfl, ?_⟩) hS ?_
      rotate_left
      focus (intro w' hSw; obtain ⟨hs0, hs1, hs2, hs3, hs4, hs5, hs6, hs7⟩ := hSw; go_simp; try (with_reducible rfl))
      try simp only [Act.put, List.setIfInBounds_toArray, List.set_cons_zero, List.set_cons_succ]
      refine till_take 2 (v := ?_) rfl (by kernel_rfl) (fun _ _ _ h => h) (Or.inl ⟨by rfl, ?_⟩) hS ?_
      rotate_left
      focus (intro w' hSw; obtain ⟨hs0, hs1, hs2, hs3, hs4, hs5, hs6, hs7⟩ := hSw; go_simp; try (with_reducible rfl))
      try simp only [Act.put, List.setIfInBounds_toArray, List.set_cons_zero, List.set_cons_succ]
      refine till_take 3 (v := ?_) rfl (by kernel_rfl) (fun _ _ _ h => h) (Or.inl ⟨by rfl, ?_⟩) hS ?_
      rotate_left
      focus (intro w' hSw; obtain ⟨hs0, hs1, hs2, hs3, hs4, hs5, hs6, hs7⟩ := hSw; go_simp; try (with_reducible rfl))
      try simp only [Act.put, List.setIfInBounds_toArray, List.set_cons_zero, List.set_cons_succ]
      refine till_take 4 (v := ?_) rfl (by kernel_rfl) (fun _ _ _ h => h) (Or.inl ⟨by rfl, ?_⟩) hS ?_
      rotate_left
      focus (intro w' hSw; obtain ⟨hs0, hs1, hs2, hs3, hs4, hs5, hs6, hs7⟩ := hSw; go_simp; try (with_reducible rfl))
      try simp only [Act.put, List.setIfInBounds_toArray, List.set_cons_zero, List.set_cons_succ]
      refine till_take 5 (v := ?_) rfl (by kernel_rfl) (fun _ _ _ h => h) (Or.inl ⟨by rfl, ?_⟩) hS ?_
      rotate_left
      focus (intro w' hSw; obtain ⟨hs0, hs1, hs2, hs3, hs4, hs5, hs6, hs7⟩ := hSw; go_simp; try (with_reducible rfl))
      try simp only [Act.put, List.setIfInBounds_toArray, List.set_cons_zero, List.set_cons_succ]
      refine till_take 6 (v := ?_) rfl (by kernel_rfl) (fun _ _ _ h => h) (Or.inl ⟨by rfl, ?_⟩) hS ?_
      rotate_left
      focus (intro w' hSw; obtain ⟨hs0, hs1, hs2, hs3, hs4, hs5, hs6, hs7⟩ := hSw; go_simp; try (with_reducible rfl))
      try simp only [Act.put, List.setIfInBounds_toArray, List.set_cons_zero, List.set_cons_succ]
      refine till_ready [7] (by kernel_rfl) (TillReady.cons 7 rfl (fun K hK => ?_) TillReady.nil)
      go_simp
      clear hS
      have hS := HSK.out _ hS1
      refine (Hid.out hK) _ _ (fun _ => hS) ?_
      try simp only [Act.put, List.setIfInBounds_toArray, List.set_cons_zero, List.set_cons_succ]
      refine till_ready [8] (by kernel_rfl) (TillReady.cons 8 rfl (fun K hK => ?_) TillReady.nil)
      refine step_append_fresh (wr.drew.alloc (.cells (encDone x).toArray 45)) rfl (.tmp 15) (.tmp 21) 30 rfl (w.heap.size + 3) 45 (.agg #[.int .i64 0, .int .i64 0, .slice none 0 0, .slice none 0 0, .bool false, .int .u64 0]) 6 80 underlying30 info45 rfl (by decide) (.slice va j vc) j ((ds.take j).flatMap encDone) (by rfl) (HP.out.r1.drew.alloc _) ⟨wr.heap.size, 0, none⟩ 1 1 (encDone x) (by rfl) rfl (cell_new wr.drew (encDone x) 45) (by simp [encDone, Value.oneCell']) (by unfold maxLen; omega) (by omega) (by have := HP.out.out.lt; simp; omega) ?_
      intro v5 w3 hT3 hg3 ho3
      obtain ⟨a5, c5, rfl⟩ := owns_slice hT3
      have hP1 := (HP.out.below hS1)
      have hfin := hP1.push1 HX.out hT3 hg3
      obtain ⟨g1, g2, g3, g4⟩ := grown_plain hP1 hg3 fun k hk => (hP1.r1.lt k hk).1
      have hbw3 : w.heap.size ≤ w3.heap.size := g4.size
      have hS3 : PS0 w.heap.size (.slice (some ⟨b, o, none⟩) ds.length dc) (.slice va j vc) b (o + j * 6) x w3 := ⟨g1.cell (j := 0) rfl, g3.cell (j := 0) rfl, by rw [g4.cell (p := ⟨b, o + j * 6, none⟩) hbx]; exact HC.out.1, by rw [g4.cell (p := ⟨b, o + j * 6 + 1, none⟩) hbx]; exact HC.out.2.1, by rw [g4.cell (p := ⟨b, o + j * 6 + 2, none⟩) hbx]; exact HC.out.2.2.1, by rw [g4.cell (p := ⟨b, o + j * 6 + 3, none⟩) hbx]; exact HC.out.2.2.2.1, by rw [g4.cell (p := ⟨b, o + j * 6 + 4, none⟩) hbx]; exact HC.out.2.2.2.2.1, by rw [g4.cell (p := ⟨b, o + j * 6 + 5, none⟩) hbx]; exact HC.out.2.2.2.2.2⟩
      have q0 := g3.cell (j := 0) rfl
      have qf := g3.free 0
      have ql := g3.lt
      have HFIN := Lib.hid hfin
      clear hT3 hg3 ho3 hP1 hfin g1 g2 g3 hS
      have hS := hS3
      clear hS3
      refine (Hid.out hK) _ _ (fun _ => hS) ?_
      try simp only [Act.put, List.setIfInBounds_toArray, List.set_cons_zero, List.set_cons_succ]
      refine till_take 9 (v := ?_) rfl (by kernel_rfl) (fun _ _ _ h => h) (Or.inl ⟨by rfl, ?_⟩) hS ?_
      rotate_left
      focus (intro w' hSw; obtain ⟨hs0, hs1, hs2, hs3, hs4, hs5, hs6, hs7⟩ := hSw; go_simp; try (with_reducible rfl))
      try simp only [Act.put, List.setIfInBounds_toArray, List.set_cons_zero, List.set_cons_succ]
      refine till_ready [10] (by kernel_rfl) (TillReady.cons 10 rfl (fun K hK => ?_) TillReady.nil)
      go_simp
      refine (Hid.out hK) _ _ (fun h => absurd rfl h) ?_
      refine till_done (by kernel_rfl) ?_
      refine NoPanic.normal ?_
      go_wp2
      go_tidy
      exact ⟨⟨j + 1, _, by simp only; omega, rfl, HFIN.out⟩, by simp [intOf]; omega⟩
    · obtain rfl : j = ds.length := by omega
      clear hp
      go_wp2
      obtain ⟨wo, rfl⟩ : ∃ wo : World, wo = wr := ⟨_, rfl⟩
      have HP1 := HP
      clear HP
      obtain ⟨v1, rfl⟩ : ∃ v1, v1 = v := ⟨_, rfl⟩
      go_loopw [5] (fun i wr => PR w ⟨ds, seen, snaps, da, dc, sa, sc, na, nc⟩ 1 i wr) (fun i _ => seen.length - (intOf i).toNat)
      case atStart => exact ⟨0, v1, _, Nat.zero_le _, rfl, HP1.out⟩
      case round =>
        obtain ⟨j, v1, v, hj, rfl, hp⟩ := hrel
        simp only at hj
        have c0 := hp.box.cell (j := 1) rfl
        simp only [HistD.dv, HistD.sv, HistD.nv] at c0
        have hbl := hp.box.lt
        have HP := Lib.hid hp
        rcases Nat.lt_or_ge j seen.length with hlt | hge
        · obtain ⟨b, o, x, rfl, hbx, hx, hc0, hc1, hc2, hc3, hc4, hc5⟩ := HR1.out.seenAt hlt
          have c1 := hp.out.cell (j := 1) rfl
          obtain ⟨va, vc, rfl⟩ := owns_slice hp.r2
          have hol := hp.out.lt
          have hfo := hp.out.free 1
          have hjI : (j : Int) < (seen.length : Int) := by omega
          have HX := Lib.hid hx
          have HC := Lib.hid (show w.cell? ⟨b, o + j * 6, none⟩ = some (.int .i64 x.id.s) ∧ w.cell? ⟨b, o + j * 6 + 1, none⟩ = some (.int .i64 x.id.q) ∧ w.cell? ⟨b, o + j * 6 + 2, none⟩ = some (.string x.key) ∧ w.cell? ⟨b, o + j * 6 + 3, none⟩ = some (.int .i64 x.val.kind) ∧ w.cell? ⟨b, o + j * 6 + 4, none⟩ = some (.int .u64 x.val.bits) ∧ w.cell? ⟨b, o + j * 6 + 5, none⟩ = some (.string x.val.text) from ⟨hc0, hc1, hc2, hc3, hc4, hc5⟩)
          have hbw : b < wr.heap.size := Nat.lt_of_lt_of_le hbx hp.old.size
          have sk : ∀ W, Below wr.heap.size wr W → PS1 w.heap.size (.slice (some ⟨b, o, none⟩) seen.length sc) (.slice va j vc) b (o + j * 6) x W := fun W hb => by
            have hP2 := hp.below hb
            have hW := hP2.old
            refine ⟨hP2.box.cell (j := 1) rfl, hP2.out.cell (j := 1) rfl, by rw [hW.cell (p := ⟨b, o + j * 6, none⟩) hbx]; exact hc0, by rw [hW.cell (p := ⟨b, o + j * 6 + 1, none⟩) hbx]; exact hc1, by rw [hW.cell (p := ⟨b, o + j * 6 + 2, none⟩) hbx]; exact hc2, by rw [hW.cell (p := ⟨b, o + j * 6 + 3, none⟩) hbx]; exact hc3, by rw [hW.cell (p := ⟨b, o + j * 6 + 4, none⟩) hbx]; exact hc4, by rw [hW.cell (p := ⟨b, o + j * 6 + 5, none⟩) hbx]; exact hc5⟩
          have HSK := Lib.hid sk
          clear sk hc0 hc1 hc2 hc3 hc4 hc5 hx hp
          have hS0 : Below wr.heap.size wr wr := Below.refl _ _
          have hS1 : Below wr.heap.size wr (wr.drew.alloc (.cells (encSeen x).toArray 79)) := hS0.drew.alloc (Nat.le_refl _) _
          go_wp2
          refine wp_region_noPanic ?_
          refine till_start (PS1 w.heap.size (.slice (some ⟨b, o, none⟩) seen.length sc) (.slice va j vc) b (o + j * 6) x) 10 (by kernel_rfl) ?_
          have hS := HSK.out wr.drew hS0.drew
          show AnyTill _ _ _ _ _ _ 11 (Array.replicate 11 false) _ _
          refine till_take 0 (v := ?_) rfl (by kernel_rfl) (fun _ _ _ h => h) (Or.inl ⟨by rfl, ?_⟩) hS ?_
          rotate_left
          focus (intro w' hSw; obtain ⟨hs0, hs1, hs2, hs3, hs4, hs5, hs6, hs7⟩ := hSw; go_simp; try (with_reducible rfl))
          try simp only [Act.put, List.setIfInBounds_toArray, List.set_cons_zero, List.set_cons_succ]
          refine till_take 1 (v := ?_) rfl (by kernel_rfl) (fun _ _ _ h => h) (Or.inl ⟨by rfl, ?_⟩) hS ?_
          rotate_left
          focus (intro w' hSw; obtain ⟨hs0, hs1, hs2, hs3, hs4, hs5, hs6, hs7⟩ := hSw; go_simp; try (with_reducible rfl))
          try simp only [Act.put, List.setIfInBounds_toArray, List.set_cons_zero, List.set_cons_succ]
          refine till_take 2 (v := ?_) rfl (by kernel_rfl) (fun _ _ _ h => h) (Or.inl ⟨by rfl, ?_⟩) hS ?_
          rotate_left
          focus (intro w' hSw; obtain ⟨hs0, hs1, hs2, hs3, hs4, hs5, hs6, hs7⟩ := hSw; go_simp; try (with_reducible rfl))
          try simp only [Act.put, List.setIfInBounds_toArray, List.set_cons_zero, List.set_cons_succ]
          refine till_take 3 (v := ?_) rfl (by kernel_rfl) (fun _ _ _ h => h) (Or.inl ⟨by rfl, ?_⟩) hS ?_
          rotate_left
          focus (intro w' hSw; obtain ⟨hs0, hs1, hs2, hs3, hs4, hs5, hs6, hs7⟩ := hSw; go_simp; try (with_reducible rfl))
          try simp only [Act.put, List.setIfInBounds_toArray, List.set_cons_zero, List.set_cons_succ]
          refine till_take 4 (v := ?_) rfl (by kernel_rfl) (fun _ _ _ h => h) (Or.inl ⟨by rfl, ?_⟩) hS ?_
          rotate_left
          focus (intro w' hSw; obtain ⟨hs0, hs1, hs2, hs3, hs4, hs5, hs6, hs7⟩ := hSw; go_simp; try (with_reducible rfl))
          try simp only [Act.put, List.setIfInBounds_toArray, List.set_cons_zero, List.set_cons_succ]
          refine till_take 5 (v := ?_) rfl (by kernel_rfl) (fun _ _ _ h => h) (Or.inl ⟨by rfl, ?_⟩) hS ?_
          rotate_left
          focus (intro w' hSw; obtain ⟨hs0, hs1, hs2, hs3, hs4, hs5, hs6, hs7⟩ := hSw; go_simp; try (with_reducible rfl))
          try simp only [Act.put, List.setIfInBounds_toArray, List.set_cons_zero, List.set_cons_succ]
          refine till_take 6 (v := ?_) rfl (by kernel_rfl) (fun _ _ _ h => h) (Or.inl ⟨by rfl, ?_⟩) hS ?_
          rotate_left
          focus (intro w' hSw; obtain ⟨hs0, hs1, hs2, hs3, hs4, hs5, hs6, hs7⟩ := hSw; go_simp; try (with_reducible rfl))
          try simp only [Act.put, List.setIfInBounds_toArray, List.set_cons_zero, List.set_cons_succ]
          refine till_ready [7] (by kernel_rfl) (TillReady.cons 7 rfl (fun K hK => ?_) TillReady.nil)
          go_simp
          clear hS
          have hS := HSK.out _ hS1
          refine (Hid.out hK) _ _ (fun _ => hS) ?_
          try simp only [Act.put, List.setIfInBounds_toArray, List.set_cons_zero, List.set_cons_succ]
          refine till_ready [8] (by kernel_rfl) (TillReady.cons 8 rfl (fun K hK => ?_) TillReady.nil)
          refine step_append_fresh (wr.drew.alloc (.cells (encSeen x).toArray 79)) rfl (.tmp 32) (.tmp 38) 31 rfl (w.heap.size + 3) 79 (.agg #[.int .i64 0, .int .i64 0, .string ⟨#[]⟩, .int .i64 0, .int .u64 0, .string ⟨#[]⟩]) 6 64 underlying31 info79 rfl (by decide) (.slice va j vc) j ((seen.take j).flatMap encSeen) (by rfl) (HP.out.r2.drew.alloc _) ⟨wr.heap.size, 0, none⟩ 1 1 (encSeen x) (by rfl) rfl (cell_new wr.drew (encSeen x) 79) (by simp [encSeen, Value.oneCell']) (by unfold maxLen; omega) (by omega) (by have := HP.out.out.lt; simp; omega) ?_
          intro v5 w3 hT3 hg3 ho3
          obtain ⟨a5, c5, rfl⟩ := owns_slice hT3
          have hP1 := (HP.out.below hS1)
          have hfin := hP1.push2 HX.out hT3 hg3
          obtain ⟨g1, g2, g3, g4⟩ := grown_plain hP1 hg3 fun k hk => (hP1.r2.lt k hk).1
          have hbw3 : w.heap.size ≤ w3.heap.size := g4.size
          have hS3 : PS1 w.heap.size (.slice (some ⟨b, o, none⟩) seen.length sc) (.slice va j vc) b (o + j * 6) x w3 := ⟨g1.cell (j := 1) rfl, g3.cell (j := 1) rfl, by rw [g4.cell (p := ⟨b, o + j * 6, none⟩) hbx]; exact HC.out.1, by rw [g4.cell (p := ⟨b, o + j * 6 + 1, none⟩) hbx]; exact HC.out.2.1, by rw [g4.cell (p := ⟨b, o + j * 6 + 2, none⟩) hbx]; exact HC.out.2.2.1, by rw [g4.cell (p := ⟨b, o + j * 6 + 3, none⟩) hbx]; exact HC.out.2.2.2.1, by rw [g4.cell (p := ⟨b, o + j * 6 + 4, none⟩) hbx]; exact HC.out.2.2.2.2.1, by rw [g4.cell (p := ⟨b, o + j * 6 + 5, none⟩) hbx]; exact HC.out.2.2.2.2.2⟩
          have q0 := g3.cell (j := 1) rfl
          have qf := g3.free 1
          have ql := g3.lt
          have HFIN := Lib.hid hfin
          clear hT3 hg3 ho3 hP1 hfin g1 g2 g3 hS
          have hS := hS3
          clear hS3
          refine (Hid.out hK) _ _ (fun _ => hS) ?_
          try simp only [Act.put, List.setIfInBounds_toArray, List.set_cons_zero, List.set_cons_succ]
          refine till_take 9 (v := ?_) rfl (by kernel_rfl) (fun _ _ _ h => h) (Or.inl ⟨by rfl, ?_⟩) hS ?_
          rotate_left
          focus (intro w' hSw; obtain ⟨hs0, hs1, hs2, hs3, hs4, hs5, hs6, hs7⟩ := hSw; go_simp; try (with_reducible rfl))
          try simp only [Act.put, List.setIfInBounds_toArray, List.set_cons_zero, List.set_cons_succ]
          refine till_ready [10] (by kernel_rfl) (TillReady.cons 10 rfl (fun K hK => ?_) TillReady.nil)
          go_simp
          refine (Hid.out hK) _ _ (fun h => absurd rfl h) ?_
          refine till_done (by kernel_rfl) ?_
          refine NoPanic.normal ?_
          go_wp2
          go_tidy
          exact ⟨⟨j + 1, v1, _, by simp only; omega, rfl, HFIN.out⟩, by simp [intOf]; omega⟩
        · obtain rfl : j = seen.length := by omega
          clear hp
          go_wp2
          obtain ⟨wo, rfl⟩ : ∃ wo : World, wo = wr := ⟨_, rfl⟩
          have HP2 := HP
          clear HP
          obtain ⟨v2, rfl⟩ : ∃ v2, v2 = v := ⟨_, rfl⟩
          go_loopw [6] (fun i wr => PR w ⟨ds, seen, snaps, da, dc, sa, sc, na, nc⟩ 2 i wr) (fun i _ => snaps.length - (intOf i).toNat)
          case atStart => exact ⟨0, v1, v2, _, Nat.zero_le _, rfl, HP2.out⟩
          case round =>
            obtain ⟨j, v1, v2, v, hj, rfl, hp⟩ := hrel
            simp only at hj
            have c0 := hp.box.cell (j := 2) rfl
            simp only [HistD.dv, HistD.sv, HistD.nv] at c0
            have hbl := hp.box.lt
            have HP := Lib.hid hp
            rcases Nat.lt_or_ge j snaps.length with hlt | hge
            · obtain ⟨b, o, x, rfl, hbx, hx, hc0, hc1, hc2, hc3, hc4⟩ := HR2.out.snapAt hlt
              have c1 := hp.out.cell (j := 2) rfl
              obtain ⟨va, vc, rfl⟩ := owns_slice hp.r3
              have hol := hp.out.lt
              have hfo := hp.out.free 2
              have hjI : (j : Int) < (snaps.length : Int) := by omega
              have HX := Lib.hid hx
              have HC := Lib.hid (show w.cell? ⟨b, o + j * 5, none⟩ = some (.int .i64 x.session) ∧ w.cell? ⟨b, o + j * 5 + 1, none⟩ = some (.int .u64 x.stamp) ∧ w.cell? ⟨b, o + j * 5 + 2, none⟩ = some (.int .u64 x.floor) ∧ w.cell? ⟨b, o + j * 5 + 3, none⟩ = some (x.kv) ∧ w.cell? ⟨b, o + j * 5 + 4, none⟩ = some (x.vv) from ⟨hc0, hc1, hc2, hc3, hc4⟩)
              have hbw : b < wr.heap.size := Nat.lt_of_lt_of_le hbx hp.old.size
              have sk : ∀ W, Below wr.heap.size wr W → PS2 w.heap.size (.slice (some ⟨b, o, none⟩) snaps.length nc) (.slice va j vc) b (o + j * 5) x W := fun W hb => by
                have hP2 := hp.below hb
                have hW := hP2.old
                refine ⟨hP2.box.cell (j := 2) rfl, hP2.out.cell (j := 2) rfl, by rw [hW.cell (p := ⟨b, o + j * 5, none⟩) hbx]; exact hc0, by rw [hW.cell (p := ⟨b, o + j * 5 + 1, none⟩) hbx]; exact hc1, by rw [hW.cell (p := ⟨b, o + j * 5 + 2, none⟩) hbx]; exact hc2, by rw [hW.cell (p := ⟨b, o + j * 5 + 3, none⟩) hbx]; exact hc3, by rw [hW.cell (p := ⟨b, o + j * 5 + 4, none⟩) hbx]; exact hc4⟩
              have HSK := Lib.hid sk
              clear sk hc0 hc1 hc2 hc3 hc4 hx hp
              have hS0 : Below wr.heap.size wr wr := Below.refl _ _
              have hS1 : Below wr.heap.size wr (wr.drew.alloc (.cells (encSnap x).toArray 80)) := hS0.drew.alloc (Nat.le_refl _) _
              go_wp2
              refine wp_region_noPanic ?_
              refine till_start (PS2 w.heap.size (.slice (some ⟨b, o, none⟩) snaps.length nc) (.slice va j vc) b (o + j * 5) x) 10 (by kernel_rfl) ?_
              have hS := HSK.out wr.drew hS0.drew
              show AnyTill _ _ _ _ _ _ 11 (Array.replicate 11 false) _ _
              refine till_take 0 (v := ?_) rfl (by kernel_rfl) (fun _ _ _ h => h) (Or.inl ⟨by rfl, ?_⟩) hS ?_
              rotate_left
              focus (intro w' hSw; obtain ⟨hs0, hs1, hs2, hs3, hs4, hs5, hs6⟩ := hSw; go_simp; try (with_reducible rfl))
              try simp only [Act.put, List.setIfInBounds_toArray, List.set_cons_zero, List.set_cons_succ]
              refine till_take 1 (v := ?_) rfl (by kernel_rfl) (fun _ _ _ h => h) (Or.inl ⟨by rfl, ?_⟩) hS ?_
              rotate_left
              focus (intro w' hSw; obtain ⟨hs0, hs1, hs2, hs3, hs4, hs5, hs6⟩ := hSw; go_simp; try (with_reducible rfl))
              try simp only [Act.put, List.setIfInBounds_toArray, List.set_cons_zero, List.set_cons_succ]
              refine till_take 2 (v := ?_) rfl (by kernel_rfl) (fun _ _ _ h => h) (Or.inl ⟨by rfl, ?_⟩) hS ?_
              rotate_left
              focus (intro w' hSw; obtain ⟨hs0, hs1, hs2, hs3, hs4, hs5, hs6⟩ := hSw; go_simp; try (with_reducible rfl))
              try simp only [Act.put, List.setIfInBounds_toArray, List.set_cons_zero, List.set_cons_succ]
              refine till_take 3 (v := ?_) rfl (by kernel_rfl) (fun _ _ _ h => h) (Or.inl ⟨by rfl, ?_⟩) hS ?_
              rotate_left
              focus (intro w' hSw; obtain ⟨hs0, hs1, hs2, hs3, hs4, hs5, hs6⟩ := hSw; go_simp; try (with_reducible rfl))
              try simp only [Act.put, List.setIfInBounds_toArray, List.set_cons_zero, List.set_cons_succ]
              refine till_take 4 (v := ?_) rfl (by kernel_rfl) (fun _ _ _ h => h) (Or.inl ⟨by rfl, ?_⟩) hS ?_
              rotate_left
              focus (intro w' hSw; obtain ⟨hs0, hs1, hs2, hs3, hs4, hs5, hs6⟩ := hSw; go_simp; try (with_reducible rfl))
              try simp only [Act.put, List.setIfInBounds_toArray, List.set_cons_zero, List.set_cons_succ]
              refine till_take 5 (v := ?_) rfl (by kernel_rfl) (fun _ _ _ h => h) (Or.inl ⟨by rfl, ?_⟩) hS ?_
              rotate_left
              focus (intro w' hSw; obtain ⟨hs0, hs1, hs2, hs3, hs4, hs5, hs6⟩ := hSw; go_simp; try (with_reducible rfl))
              try simp only [Act.put, List.setIfInBounds_toArray, List.set_cons_zero, List.set_cons_succ]
              refine till_take 6 (v := ?_) rfl (by kernel_rfl) (fun _ _ _ h => h) (Or.inl ⟨by rfl, ?_⟩) hS ?_
              rotate_left
              focus (intro w' hSw; obtain ⟨hs0, hs1, hs2, hs3, hs4, hs5, hs6⟩ := hSw; go_simp; try (with_reducible rfl))
              try simp only [Act.put, List.setIfInBounds_toArray, List.set_cons_zero, List.set_cons_succ]
              refine till_ready [7] (by kernel_rfl) (TillReady.cons 7 rfl (fun K hK => ?_) TillReady.nil)
              go_simp
              clear hS
              have hS := HSK.out _ hS1
              refine (Hid.out hK) _ _ (fun _ => hS) ?_
              try simp only [Act.put, List.setIfInBounds_toArray, List.set_cons_zero, List.set_cons_succ]
              refine till_ready [8] (by kernel_rfl) (TillReady.cons 8 rfl (fun K hK => ?_) TillReady.nil)
              refine step_append_fresh (wr.drew.alloc (.cells (encSnap x).toArray 80)) rfl (.tmp 49) (.tmp 55) 32 rfl (w.heap.size + 3) 80 (.agg #[.int .i64 0, .int .u64 0, .int .u64 0, .slice none 0 0, .slice none 0 0]) 5 72 underlying32 info80 rfl (by decide) (.slice va j vc) j ((snaps.take j).flatMap encSnap) (by rfl) (HP.out.r3.drew.alloc _) ⟨wr.heap.size, 0, none⟩ 1 1 (encSnap x) (by rfl) rfl (cell_new wr.drew (encSnap x) 80) (by simp [encSnap, Value.oneCell']) (by unfold maxLen; omega) (by omega) (by have := HP.out.out.lt; simp; omega) ?_
              intro v5 w3 hT3 hg3 ho3
              obtain ⟨a5, c5, rfl⟩ := owns_slice hT3
              have hP1 := (HP.out.below hS1)
              have hfin := hP1.push3 HX.out hT3 hg3
              obtain ⟨g1, g2, g3, g4⟩ := grown_plain hP1 hg3 fun k hk => (hP1.r3.lt k hk).1
              have hbw3 : w.heap.size ≤ w3.heap.size := g4.size
              have hS3 : PS2 w.heap.size (.slice (some ⟨b, o, none⟩) snaps.length nc) (.slice va j vc) b (o + j * 5) x w3 := ⟨g1.cell (j := 2) rfl, g3.cell (j := 2) rfl, by rw [g4.cell (p := ⟨b, o + j * 5, none⟩) hbx]; exact HC.out.1, by rw [g4.cell (p := ⟨b, o + j * 5 + 1, none⟩) hbx]; exact HC.out.2.1, by rw [g4.cell (p := ⟨b, o + j * 5 + 2, none⟩) hbx]; exact HC.out.2.2.1, by rw [g4.cell (p := ⟨b, o + j * 5 + 3, none⟩) hbx]; exact HC.out.2.2.2.1, by rw [g4.cell (p := ⟨b, o + j * 5 + 4, none⟩) hbx]; exact HC.out.2.2.2.2⟩
              have q0 := g3.cell (j := 2) rfl
              have qf := g3.free 2
              have ql := g3.lt
              have HFIN := Lib.hid hfin
              clear hT3 hg3 ho3 hP1 hfin g1 g2 g3 hS
              have hS := hS3
              clear hS3
              refine (Hid.out hK) _ _ (fun _ => hS) ?_
              try simp only [Act.put, List.setIfInBounds_toArray, List.set_cons_zero, List.set_cons_succ]
              refine till_take 9 (v := ?_) rfl (by kernel_rfl) (fun _ _ _ h => h) (Or.inl ⟨by rfl, ?_⟩) hS ?_
              rotate_left
              focus (intro w' hSw; obtain ⟨hs0, hs1, hs2, hs3, hs4, hs5, hs6⟩ := hSw; go_simp; try (with_reducible rfl))
              try simp only [Act.put, List.setIfInBounds_toArray, List.set_cons_zero, List.set_cons_succ]
              refine till_ready [10] (by kernel_rfl) (TillReady.cons 10 rfl (fun K hK => ?_) TillReady.nil)
              go_simp
              refine (Hid.out hK) _ _ (fun h => absurd rfl h) ?_
              refine till_done (by kernel_rfl) ?_
              refine NoPanic.normal ?_
              go_wp2
              go_tidy
              exact ⟨⟨j + 1, v1, v2, _, by simp only; omega, rfl, HFIN.out⟩, by simp [intOf]; omega⟩
            · obtain rfl : j = snaps.length := by omega
              clear hp
              obtain ⟨⟨a1, k1, rfl⟩, ⟨a2, k2, rfl⟩, a3, k3, rfl⟩ := HP.out.len
              have o0 := HP.out.out.cell (j := 0) rfl
              have o1 := HP.out.out.cell (j := 1) rfl
              have o2 := HP.out.out.cell (j := 2) rfl
              have o3 := HP.out.out.lt
              have p0 := HP.out.res.cell (j := 0) rfl
              have p1 := HP.out.res.cell (j := 1) rfl
              have p2 := HP.out.res.cell (j := 2) rfl
              have p3 := HP.out.res.lt
              have f0 := HP.out.res.free 0
              have f1 := HP.out.res.free 1
              have f2 := HP.out.res.free 2
              go_wp2
              refine bodyPost_ret (v := .agg #[.slice a1 ds.length k1, .slice a2 seen.length k2, .slice a3 snaps.length k3]) (by simp [results, Try.results10, go_sem, o0, o1, o2, o3, p0, p1, p2, p3]) rfl (hR _ _ ?_)
              have st : ∀ {e k n : Nat} {v : Value} {xs : List Value}, wr.ownsRow (w.heap.size + 3) e k v n xs → (((wr.setCell ⟨w.heap.size + 1, 0, none⟩ (.slice a1 ds.length k1)).setCell ⟨w.heap.size + 1, 1, none⟩ (.slice a2 seen.length k2)).setCell ⟨w.heap.size + 1, 2, none⟩ (.slice a3 snaps.length k3)).ownsRow (w.heap.size + 3) e k v n xs := fun q => owns_set (owns_set (owns_set q (by simp) _) (by simp) _) (by simp) _
              have old := ((HP.out.old.setCell (p := ⟨w.heap.size + 1, 0, none⟩) (by simp) (.slice a1 ds.length k1)).setCell (p := ⟨w.heap.size + 1, 1, none⟩) (by simp) (.slice a2 seen.length k2)).setCell (p := ⟨w.heap.size + 1, 2, none⟩) (by simp) (.slice a3 snaps.length k3)
              obtain ⟨h', e1, e2, e3, e4, e5⟩ := hist_of (st HP.out.r1) (st HP.out.r2) (st HP.out.r3) old HOK.out
              exact ⟨h', by rw [e5], e1, e2, e3, e4, old⟩
end Go.Proofs.Ytmdfilffoomckaa
