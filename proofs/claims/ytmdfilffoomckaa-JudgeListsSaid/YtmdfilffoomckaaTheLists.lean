/- The law JudgeLists: its walk. Conditions: each law's own. -/
import Derived.Test.YtmdfilffoomckaaOrders
import Derived.Test.YtmdfilffoomckaaSerial
import Derived.Test.YtmdfilffoomckaaSnaps
namespace Go.Proofs.Ytmdfilffoomckaa
open Go.ChangeShapes Go.WideShapes Go.ChangeAt Go.RowKit

def TellC (P : Prop) (w : World) (e : Ending) (w' : World) : Prop := ∃ b : Bool, e = .returned (.bool b) ∧ (b = true ↔ P) ∧ Below w.heap.size w w'
def IdsEnd3 (ds : List DoneD) (w W : World) (e : Ending) (w' : World) : Prop := ∃ v, e = .returned v ∧ RowOf encId 2 w' v (idsOf (wit ds)) ∧ Below w.heap.size w w' ∧ Below W.heap.size W w'
/-! ### A list that is turned; ids that differ -/
def Turned (ds X : List DoneD) (p : Nat) : Prop := ∀ i, i < X.length → X[i]? = ds[(i + p) % ds.length]?
theorem turned_perm {ds X : List DoneD} {p : Nat} (h : Turned ds X p) (hl : X.length = ds.length) : X.Perm ds := by
  rcases Nat.eq_zero_or_pos ds.length with h0 | h0
  · rw [List.eq_nil_of_length_eq_zero h0, List.eq_nil_of_length_eq_zero (hl.trans h0)]
  · have hb : p % ds.length < ds.length := Nat.mod_lt _ h0
    have hX : X = ds.drop (p % ds.length) ++ ds.take (p % ds.length) := by
      refine List.ext_getElem? fun i => ?_
      rcases Nat.lt_or_ge i X.length with hi | hi
      · rw [h i hi]
        have e : (i + p) % ds.length = (i + p % ds.length) % ds.length := by rw [Nat.add_mod, Nat.add_mod i (p % ds.length), Nat.mod_mod]
        rw [e]
        rcases Nat.lt_or_ge (i + p % ds.length) ds.length with h1 | h1
        · rw [Nat.mod_eq_of_lt h1, List.getElem?_append_left (by rw [List.length_drop]; omega), List.getElem?_drop, Nat.add_comm]
        · have e2 : (i + p % ds.length) % ds.length = i + p % ds.length - ds.length := by
            rw [Nat.mod_eq_sub_mod h1, Nat.mod_eq_of_lt (by omega)]
          rw [e2, List.getElem?_append_right (by rw [List.length_drop]; omega), List.length_drop, List.getElem?_take, if_pos (by omega)]
          congr 1; omega
      · rw [List.getElem?_eq_none hi, List.getElem?_eq_none (by rw [List.length_append, List.length_drop, List.length_take]; omega)]
    rw [hX]
    refine List.Perm.trans List.perm_append_comm ?_
    rw [List.take_append_drop]
def Apart (ds : List DoneD) (n : Nat) : Prop := ∀ (a b : Nat) x y, a < b → b < n → ds[a]? = some x → ds[b]? = some y → x.txn.id ≠ y.txn.id
theorem Apart.pairwise {ds : List DoneD} (h : Apart ds ds.length) : ds.Pairwise fun a b => a.txn.id ≠ b.txn.id :=
  List.pairwise_iff_getElem.2 fun i j hi hj hij => h i j _ _ hij hj (List.getElem?_eq_getElem hi) (List.getElem?_eq_getElem hj)
theorem apart_wit {ds X : List DoneD} (h : Apart ds ds.length) (hp : X.Perm ds) : wit X = wit ds := by
  have h1 := h.pairwise
  have h2 : X.Pairwise fun a b => a.txn.id ≠ b.txn.id := (hp.pairwise_iff (fun h e => h e.symm)).2 h1
  refine wit_perm ?_
  rw [first_nodup h1, first_nodup h2]
  exact hp.filter _
theorem apart_single {ds : List DoneD} (h : Apart ds ds.length) : Single ds := h.pairwise.imp fun h1 e => absurd e h1
theorem serial_rev {ds X : List DoneD} {l : List SeenD} (h : wit X = wit ds) : Serial X l.reverse ↔ Serial ds l := by
  unfold Serial seenOk
  rw [h]
  simp
theorem snaps_rev {ds X : List DoneD} {l : List SnapD} (h : wit X = wit ds) : Snapshots X l.reverse ↔ Snapshots ds l := by
  unfold Snapshots snapOk
  rw [h]
  simp
theorem rev_drop {α : Type} {l : List α} {q : Nat} {x : α} (h : l[q]? = some x) : (l.drop q).reverse = (l.drop (q + 1)).reverse ++ [x] := by
  have hq := (List.getElem?_eq_some_iff.1 h).1
  rw [List.drop_eq_getElem_cons hq, List.reverse_cons, (List.getElem?_eq_some_iff.1 h).2]
theorem und60 : Try.prog.underlying 23 = some (.slice 60) := by kernel_rfl
theorem und64 : Try.prog.underlying 24 = some (.slice 64) := by kernel_rfl
theorem info60 : (Try.prog.info? 60).map (fun i => (i.zero, i.size, i.bytes)) = some (some (.agg #[.int .i64 0, .int .i64 0, .string ⟨#[]⟩, .int .i64 0, .int .u64 0, .string ⟨#[]⟩]), 6, 64) := by kernel_rfl
theorem info64 : (Try.prog.info? 64).map (fun i => (i.zero, i.size, i.bytes)) = some (some (.agg #[.int .i64 0, .int .u64 0, .int .u64 0, .slice none 0 0, .slice none 0 0]), 5, 72) := by kernel_rfl
/-- A history that is being gathered. -/
structure GathAt (w : World) (hv : List Value) (B : Nat) (v1 v2 v3 : Value) (X1 : List DoneD) (X2 : List SeenD) (X3 : List SnapD) (W : World) : Prop where
  box : VarAt W B 26 hv
  out : VarAt W w.heap.size 26 [v1, v2, v3]
  r1 : W.ownsRow (w.heap.size + 1) 50 6 v1 X1.length (X1.flatMap encDone)
  r2 : W.ownsRow (w.heap.size + 1) 60 6 v2 X2.length (X2.flatMap encSeen)
  r3 : W.ownsRow (w.heap.size + 1) 64 5 v3 X3.length (X3.flatMap encSnap)
  old : Below w.heap.size w W
  lt : B < w.heap.size
section
variable {w W W' : World} {hv : List Value} {B : Nat} {v1 v2 v3 v' : Value} {X1 : List DoneD} {X2 : List SeenD} {X3 : List SnapD}
theorem GathAt.below (p : GathAt w hv B v1 v2 v3 X1 X2 X3 W) (hb : Below W.heap.size W W') : GathAt w hv B v1 v2 v3 X1 X2 X3 W' :=
  ⟨p.box.keep hb p.box.lt, p.out.keep hb p.out.lt, ownsRow_below p.r1 hb, ownsRow_below p.r2 hb, ownsRow_below p.r3 hb, p.old.trans (hb.mono p.old.size), p.lt⟩
theorem GathAt.grown (p : GathAt w hv B v1 v2 v3 X1 X2 X3 W) {row : Option Nat} (hg : W.grownBy W' row) (hr : ∀ k, row = some k → w.heap.size + 1 ≤ k) :
    VarAt W' w.heap.size 26 [v1, v2, v3] ∧ VarAt W' B 26 hv ∧ Below w.heap.size w W' := by
  have hlt := p.lt
  refine ⟨p.out.grown hg fun e => ?_, p.box.grown hg fun e => ?_, p.old.grown hg p.old.size fun k hk => ?_⟩
  · have := hr _ e.symm; omega
  · have := hr _ e.symm; omega
  · have := hr k hk; omega
theorem GathAt.push1 {x : DoneD} (p : GathAt w hv B v1 v2 v3 X1 X2 X3 W) (ho : W'.ownsRow (w.heap.size + 1) 50 6 v' (X1.length + 1) (X1.flatMap encDone ++ encDone x)) (hg : W.grownBy W' v1.ownBlock) :
    GathAt w hv B v' v2 v3 (X1 ++ [x]) X2 X3 (W'.setCell ⟨w.heap.size, 0, none⟩ v') ∧ VarAt W' w.heap.size 26 [v1, v2, v3] ∧ VarAt W' B 26 hv ∧ Below w.heap.size w W' := by
  obtain ⟨h2, h1, hb'⟩ := p.grown hg fun k hk => (p.r1.lt k hk).1
  refine ⟨⟨h1.other (by have := p.lt; simp; omega) _, h2.set 0 v', ?_, owns_set (p.r2.kept hg (owns_ne p.r2 p.r1 (by decide))) (by simp) _, owns_set (p.r3.kept hg (owns_ne p.r3 p.r1 (by decide))) (by simp) _, hb'.setCell (Nat.le_refl _) _, p.lt⟩, h2, h1, hb'⟩
  rw [List.flatMap_append, List.length_append]
  simpa using owns_set ho (a := ⟨w.heap.size, 0, none⟩) (by simp) v'
theorem GathAt.push2 {x : SeenD} (p : GathAt w hv B v1 v2 v3 X1 X2 X3 W) (ho : W'.ownsRow (w.heap.size + 1) 60 6 v' (X2.length + 1) (X2.flatMap encSeen ++ encSeen x)) (hg : W.grownBy W' v2.ownBlock) :
    GathAt w hv B v1 v' v3 X1 (X2 ++ [x]) X3 (W'.setCell ⟨w.heap.size, 1, none⟩ v') ∧ VarAt W' w.heap.size 26 [v1, v2, v3] ∧ VarAt W' B 26 hv ∧ Below w.heap.size w W' := by
  obtain ⟨h2, h1, hb'⟩ := p.grown hg fun k hk => (p.r2.lt k hk).1
  refine ⟨⟨h1.other (by have := p.lt; simp; omega) _, h2.set 1 v', owns_set (p.r1.kept hg (owns_ne p.r1 p.r2 (by decide))) (by simp) _, ?_, owns_set (p.r3.kept hg (owns_ne p.r3 p.r2 (by decide))) (by simp) _, hb'.setCell (Nat.le_refl _) _, p.lt⟩, h2, h1, hb'⟩
  rw [List.flatMap_append, List.length_append]
  simpa using owns_set ho (a := ⟨w.heap.size, 1, none⟩) (by simp) v'
theorem GathAt.push3 {x : SnapD} (p : GathAt w hv B v1 v2 v3 X1 X2 X3 W) (ho : W'.ownsRow (w.heap.size + 1) 64 5 v' (X3.length + 1) (X3.flatMap encSnap ++ encSnap x)) (hg : W.grownBy W' v3.ownBlock) :
    GathAt w hv B v1 v2 v' X1 X2 (X3 ++ [x]) (W'.setCell ⟨w.heap.size, 2, none⟩ v') ∧ VarAt W' w.heap.size 26 [v1, v2, v3] ∧ VarAt W' B 26 hv ∧ Below w.heap.size w W' := by
  obtain ⟨h2, h1, hb'⟩ := p.grown hg fun k hk => (p.r3.lt k hk).1
  refine ⟨⟨h1.other (by have := p.lt; simp; omega) _, h2.set 2 v', owns_set (p.r1.kept hg (owns_ne p.r1 p.r3 (by decide))) (by simp) _, owns_set (p.r2.kept hg (owns_ne p.r2 p.r3 (by decide))) (by simp) _, ?_, hb'.setCell (Nat.le_refl _) _, p.lt⟩, h2, h1, hb'⟩
  rw [List.flatMap_append, List.length_append]
  simpa using owns_set ho (a := ⟨w.heap.size, 2, none⟩) (by simp) v'
end
theorem turned_push {ds X : List DoneD} {p : Nat} {x : DoneD} (h : Turned ds X p) (hx : ds[(X.length + p) % ds.length]? = some x) : Turned ds (X ++ [x]) p := fun i hi => by
  rcases Nat.lt_or_ge i X.length with h1 | h1
  · rw [List.getElem?_append_left h1]; exact h i h1
  · obtain rfl : i = X.length := by simp at hi; omega
    rw [List.getElem?_append_right (Nat.le_refl _), hx]; simp
theorem apart_push {ds : List DoneD} {n : Nat} {d : DoneD} (h : Apart ds n) (hd : ds[n]? = some d) (hno : ∀ (x : Nat) y, x < n → ds[x]? = some y → y.txn.id ≠ d.txn.id) : Apart ds (n + 1) := fun a b x y hab hb hx hy => by
  rcases Nat.lt_or_ge b n with h1 | h1
  · exact h a b x y hab h1 hx hy
  · obtain rfl : b = n := by omega
    rw [hd] at hy; cases hy
    exact hno a x hab hx
def LR1 (w : World) (hv : List Value) (B : Nat) (ds : List DoneD) (p : Nat) (i : Value) (W : World) : Prop := ∃ v X, X.length ≤ ds.length ∧ i = .int .i64 (X.length : Nat) ∧ Turned ds X p ∧ Apart ds X.length ∧ GathAt w hv B v (.slice none 0 0) (.slice none 0 0) X [] [] W
def LR2 (w : World) (hv : List Value) (B : Nat) (v : Value) (X : List DoneD) (l : List SeenD) (i : Value) (W : World) : Prop := ∃ q v2, q ≤ l.length ∧ i = .int .i64 ((q : Int) - 1) ∧ GathAt w hv B v v2 (.slice none 0 0) X (l.drop q).reverse [] W
def LR3 (w : World) (hv : List Value) (B : Nat) (v v2 : Value) (X : List DoneD) (X2 : List SeenD) (l : List SnapD) (i : Value) (W : World) : Prop := ∃ q v3, q ≤ l.length ∧ i = .int .i64 ((q : Int) - 1) ∧ GathAt w hv B v v2 v3 X X2 (l.drop q).reverse W
def DupRel (ds : List DoneD) (d : DoneD) (n : Nat) (W1 : World) (i : Value) (W : World) : Prop := ∃ k m : Nat, k ≤ n ∧ i = .int .i64 k ∧ (∀ (x : Nat) y, x < k → ds[x]? = some y → y.txn.id ≠ d.txn.id) ∧ W = W1.drewN m
def L1S (B : Nat) (src : Value) (b o : Nat) (x : DoneD) (W : World) : Prop := W.cell? ⟨B, 0, none⟩ = some src ∧ W.cell? ⟨b, o, none⟩ = some (.int .i64 x.txn.id.s) ∧ W.cell? ⟨b, o + 1, none⟩ = some (.int .i64 x.txn.id.q) ∧ W.cell? ⟨b, o + 2, none⟩ = some (x.txn.rv) ∧ W.cell? ⟨b, o + 3, none⟩ = some (x.txn.wv) ∧ W.cell? ⟨b, o + 4, none⟩ = some (.bool x.yes) ∧ W.cell? ⟨b, o + 5, none⟩ = some (.int .u64 x.stamp)
def L2S (B B2 : Nat) (src dst : Value) (b o : Nat) (x : SeenD) (W : World) : Prop := W.cell? ⟨B, 1, none⟩ = some src ∧ W.cell? ⟨B2, 1, none⟩ = some dst ∧ W.cell? ⟨b, o, none⟩ = some (.int .i64 x.id.s) ∧ W.cell? ⟨b, o + 1, none⟩ = some (.int .i64 x.id.q) ∧ W.cell? ⟨b, o + 2, none⟩ = some (.string x.key) ∧ W.cell? ⟨b, o + 3, none⟩ = some (.int .i64 x.val.kind) ∧ W.cell? ⟨b, o + 4, none⟩ = some (.int .u64 x.val.bits) ∧ W.cell? ⟨b, o + 5, none⟩ = some (.string x.val.text)
def L3S (B B2 : Nat) (src dst : Value) (b o : Nat) (x : SnapD) (W : World) : Prop := W.cell? ⟨B, 2, none⟩ = some src ∧ W.cell? ⟨B2, 2, none⟩ = some dst ∧ W.cell? ⟨b, o, none⟩ = some (.int .i64 x.session) ∧ W.cell? ⟨b, o + 1, none⟩ = some (.int .u64 x.stamp) ∧ W.cell? ⟨b, o + 2, none⟩ = some (.int .u64 x.floor) ∧ W.cell? ⟨b, o + 3, none⟩ = some x.kv ∧ W.cell? ⟨b, o + 4, none⟩ = some x.vv
set_option maxHeartbeats 8000000 in
set_option maxRecDepth 100000 in
theorem c6 {w : World} {h : HistD} (ok : HistOk w h) (p : Nat) (hp : p ≤ 255) : Calls Try.prog 6 #[h.agg, .int .u8 p] w fun e w' => e = .returned (.bool true) ∧ Below w.heap.size w w' := by
  refine gen fun R hR => ?_
  have h9 := fun W (hb : Below w.heap.size w W) => c9 (ok.keep hb)
  have HOK := Lib.hid ok
  clear ok
  obtain ⟨ds, seen, snaps, da, dc, sa, sc, na, nc⟩ := h
  simp only [HistD.agg, HistD.dv, HistD.sv, HistD.nv] at h9 ⊢
  go_enter Try.func6, Try.ntmps6
  go_wp2_with fail
  refine (c8 _).mono ?_
  rintro e w1 ⟨rfl, hb1⟩
  have HV1 := Lib.hid ((VarAt.new w 26 [.slice da ds.length dc, .slice sa seen.length sc, .slice na snaps.length nc]).keep hb1 (by simp))
  have HB1 := Lib.hid ((below1 w (.cells #[.slice da ds.length dc, .slice sa seen.length sc, .slice na snaps.length nc] 26)).trans (hb1.mono (by simp)))
  have hV1 := HV1.out
  have v0 := hV1.cell (j := 0) rfl
  have v1 := hV1.cell (j := 1) rfl
  have v2 := hV1.cell (j := 2) rfl
  have vl := hV1.lt
  clear hV1 hb1
  go_wp2_with fail
  refine (h9 w1 HB1.out).mono ?_
  rintro e w2 ⟨b, rfl, hfew, hb2⟩
  have HV2 := Lib.hid (HV1.out.keep hb2 vl)
  have HB2 := Lib.hid (HB1.out.trans (hb2.mono HB1.out.size))
  clear v0 v1 v2 vl h9
  cases b with
  | false =>
    clear hfew
    go_wp2_with fail
    refine (c8 _).mono ?_
    rintro e w3 ⟨rfl, hb3⟩
    go_wp2_with fail
    go_tidy
    exact ⟨rfl, HB2.out.trans (hb3.mono HB2.out.size)⟩
  | true =>
    obtain ⟨f1, f2, f3⟩ := hfew rfl
    simp only at f1 f2 f3
    have hV2 := HV2.out
    have v0 := hV2.cell (j := 0) rfl
    have v1 := hV2.cell (j := 1) rfl
    have v2 := hV2.cell (j := 2) rfl
    have vl := hV2.lt
    clear hV2 hb2
    have hV2 := HV2.out
    have hBlt := hV2.lt
    have hini : GathAt w2 [.slice da ds.length dc, .slice sa seen.length sc, .slice na snaps.length nc] w.heap.size (.slice none 0 0) (.slice none 0 0) (.slice none 0 0) [] [] [] (w2.alloc (.cells #[.slice none 0 0, .slice none 0 0, .slice none 0 0] 26)) :=
      ⟨hV2.alloc _, VarAt.new w2 26 [.slice none 0 0, .slice none 0 0, .slice none 0 0], World.ownsRow_nil _ _ _ _, World.ownsRow_nil _ _ _ _, World.ownsRow_nil _ _ _ _, below1 _ _, hBlt⟩
    have HINI := Lib.hid hini
    have hok2 : HistOk w2 ⟨ds, seen, snaps, da, dc, sa, sc, na, nc⟩ := HOK.out.keep HB2.out
    have HO2 := Lib.hid hok2
    have HQ1 := Lib.hid (show RowOf encDone 6 w2 (.slice da ds.length dc) ds from hok2.1)
    have HQ2 := Lib.hid (show RowOf encSeen 6 w2 (.slice sa seen.length sc) seen from hok2.2.1)
    have HQ3 := Lib.hid (show RowOf encSnap 5 w2 (.slice na snaps.length nc) snaps from hok2.2.2.1)
    clear hini hok2 hV2 HOK HV1 HB1
    go_wp2_with fail
    go_loopw [6] (fun i wr => LR1 w2 [.slice da ds.length dc, .slice sa seen.length sc, .slice na snaps.length nc] w.heap.size ds p i wr) (fun i _ => ds.length - (intOf i).toNat)
    case atStart => exact ⟨_, [], Nat.zero_le _, rfl, fun i hi => by simp at hi, fun a b x y h1 h2 => by simp at h2, HINI.out⟩
    case round =>
      clear HINI v0 v1 v2 vl
      obtain ⟨v, X, hj, rfl, hT, hA, hp1⟩ := hrel
      have c0 := hp1.box.cell (j := 0) rfl
      have hbl := hp1.box.lt
      have HP := Lib.hid hp1
      rcases Nat.lt_or_ge X.length ds.length with hlt | hge
      · have hn : 0 < ds.length := by omega
        have hmod : (X.length + p) % ds.length < ds.length := Nat.mod_lt _ hn
        obtain ⟨b, o, x, rfl, hbx, hx, hc0, hc1, hc2, hc3, hc4, hc5⟩ := HQ1.out.doneAt hmod
        obtain ⟨b', o', d, hbb, -, hd, hd0, hd1, -, -, -, -⟩ := HQ1.out.doneAt hlt
        cases hbb
        have hW := hp1.old
        have hbw : b < wr.heap.size := Nat.lt_of_lt_of_le hbx hW.size
        have hwp : IntKind.i64.wrap (p : Int) = (p : Int) := IntWalk.i64_in _ (by omega)
        have hne : ¬ ds = [] := fun e => by rw [e] at hn; simp at hn
        have hw1 : IntKind.i64.wrap ((X.length : Int) + (p : Int)) = (X.length : Int) + (p : Int) := IntWalk.i64_in _ (by omega)
        have hw2 : ((X.length : Int) + (p : Int)).tmod (ds.length : Int) = (((X.length + p) % ds.length : Nat) : Int) := by rw [show (X.length : Int) + (p : Int) = ((X.length + p : Nat) : Int) by omega, Int.tmod_eq_emod_of_nonneg (by omega)]; omega
        have hmI : (((X.length + p) % ds.length : Nat) : Int) < (ds.length : Int) := by omega
        have HX := Lib.hid hx
        generalize hmm : (X.length + p) % ds.length = mm at hc0 hc1 hc2 hc3 hc4 hc5 hw2 hmI hmod
        have sk : ∀ W, Below wr.heap.size wr W → L1S w.heap.size (.slice (some ⟨b, o, none⟩) ds.length dc) b (o + mm * 6) x W := fun W hb => by
          have hP2 := hp1.below hb
          have hW := hP2.old
          refine ⟨hP2.box.cell (j := 0) rfl, by rw [hW.cell (p := ⟨b, o + mm * 6, none⟩) hbx]; exact hc0, by rw [hW.cell (p := ⟨b, o + mm * 6 + 1, none⟩) hbx]; exact hc1, by rw [hW.cell (p := ⟨b, o + mm * 6 + 2, none⟩) hbx]; exact hc2, by rw [hW.cell (p := ⟨b, o + mm * 6 + 3, none⟩) hbx]; exact hc3, by rw [hW.cell (p := ⟨b, o + mm * 6 + 4, none⟩) hbx]; exact hc4, by rw [hW.cell (p := ⟨b, o + mm * 6 + 5, none⟩) hbx]; exact hc5⟩
        have HSK := Lib.hid sk
        have HDc := Lib.hid (show w2.cell? ⟨b, o + X.length * 6, none⟩ = some (.int .i64 d.txn.id.s) ∧ w2.cell? ⟨b, o + X.length * 6 + 1, none⟩ = some (.int .i64 d.txn.id.q) from ⟨hd0, hd1⟩)
        have HD := Lib.hid hd
        have HT := Lib.hid hT
        have HA := Lib.hid hA
        have hjI : (X.length : Int) < (ds.length : Int) := by omega
        have hn0 : ¬ ((ds.length : Int) = 0) := by omega
        clear sk hc0 hc1 hc2 hc3 hc4 hc5 hd0 hd1 hx hd hT hA hp1 hW hmm
        have hS0 : Below wr.heap.size wr wr := Below.refl _ _
        have hS1 : Below wr.heap.size wr (wr.drew.alloc (.cells #[.int .i64 0, .int .i64 0, .slice none 0 0, .slice none 0 0, .bool false, .int .u64 0] 50)) := hS0.drew.alloc (Nat.le_refl _) _
        go_upto_region 7 with fail
        refine wp_region_noPanic ?_
        refine till_start (L1S w.heap.size (.slice (some ⟨b, o, none⟩) ds.length dc) b (o + mm * 6) x) 13 (by kernel_rfl) ?_
        have hS := HSK.out wr.drew hS0.drew
        show AnyTill _ _ _ _ _ _ 14 (Array.replicate 14 false) _ _
        refine till_take 0 (v := ?_) rfl (by kernel_rfl) (fun _ _ _ h => h) (Or.inl ⟨by rfl, ?_⟩) hS ?_
        rotate_left
        focus (intro w' hSw; obtain ⟨hs0, hs1, hs2, hs3, hs4, hs5, hs6⟩ := hSw; go_simp; try (with_reducible rfl))
        try simp only [Act.put, List.setIfInBounds_toArray, List.set_cons_zero, List.set_cons_succ]
        refine till_take 1 (v := ?_) rfl (by kernel_rfl) (fun _ _ _ h => h) (Or.inl ⟨by rfl, ?_⟩) hS ?_
        rotate_left
        focus (intro w' hSw; obtain ⟨hs0, hs1, hs2, hs3, hs4, hs5, hs6⟩ := hSw; go_simp; try (with_reducible rfl))
        try simp only [Act.put, List.setIfInBounds_toArray, List.set_cons_zero, List.set_cons_succ]
        refine till_take 2 (v := ?_) rfl (by kernel_rfl) (fun _ _ _ h => h) (Or.inl ⟨by rfl, ?_⟩) hS ?_
        rotate_left
        focus (intro w' hSw; obtain ⟨hs0, hs1, hs2, hs3, hs4, hs5, hs6⟩ := hSw; go_simp; try (with_reducible rfl))
        try simp only [Act.put, List.setIfInBounds_toArray, List.set_cons_zero, List.set_cons_succ]
        refine till_take 3 (v := ?_) rfl (by kernel_rfl) (fun _ _ _ h => h) (Or.inl ⟨by rfl, ?_⟩) hS ?_
        rotate_left
        focus (intro w' hSw; obtain ⟨hs0, hs1, hs2, hs3, hs4, hs5, hs6⟩ := hSw; go_simp; try (with_reducible rfl))
        try simp only [Act.put, List.setIfInBounds_toArray, List.set_cons_zero, List.set_cons_succ]
        refine till_take 4 (v := ?_) rfl (by kernel_rfl) (fun _ _ _ h => h) (Or.inl ⟨by rfl, ?_⟩) hS ?_
        rotate_left
        focus (intro w' hSw; obtain ⟨hs0, hs1, hs2, hs3, hs4, hs5, hs6⟩ := hSw; go_simp; try (with_reducible rfl))
        try simp only [Act.put, List.setIfInBounds_toArray, List.set_cons_zero, List.set_cons_succ]
        refine till_take 5 (v := ?_) rfl (by kernel_rfl) (fun _ _ _ h => h) (Or.inl ⟨by rfl, ?_⟩) hS ?_
        rotate_left
        focus (intro w' hSw; obtain ⟨hs0, hs1, hs2, hs3, hs4, hs5, hs6⟩ := hSw; go_simp; try (with_reducible rfl))
        try simp only [Act.put, List.setIfInBounds_toArray, List.set_cons_zero, List.set_cons_succ]
        refine till_take 6 (v := ?_) rfl (by kernel_rfl) (fun _ _ _ h => h) (Or.inl ⟨by rfl, ?_⟩) hS ?_
        rotate_left
        focus (intro w' hSw; obtain ⟨hs0, hs1, hs2, hs3, hs4, hs5, hs6⟩ := hSw; go_simp; try (with_reducible rfl))
        try simp only [Act.put, List.setIfInBounds_toArray, List.set_cons_zero, List.set_cons_succ]
        refine till_take 7 (v := ?_) rfl (by kernel_rfl) (fun _ _ _ h => h) (Or.inl ⟨by rfl, ?_⟩) hS ?_
        rotate_left
        focus (intro w' hSw; obtain ⟨hs0, hs1, hs2, hs3, hs4, hs5, hs6⟩ := hSw; go_simp; try (with_reducible rfl))
        try simp only [Act.put, List.setIfInBounds_toArray, List.set_cons_zero, List.set_cons_succ]
        refine till_take 8 (v := ?_) rfl (by kernel_rfl) (fun _ _ _ h => h) (Or.inl ⟨by rfl, ?_⟩) hS ?_
        rotate_left
        focus (intro w' hSw; obtain ⟨hs0, hs1, hs2, hs3, hs4, hs5, hs6⟩ := hSw; go_simp; try (with_reducible rfl))
        try simp only [Act.put, List.setIfInBounds_toArray, List.set_cons_zero, List.set_cons_succ]
        refine till_take 9 (v := ?_) rfl (by kernel_rfl) (fun _ _ _ h => h) (Or.inl ⟨by rfl, ?_⟩) hS ?_
        rotate_left
        focus (intro w' hSw; obtain ⟨hs0, hs1, hs2, hs3, hs4, hs5, hs6⟩ := hSw; go_simp; try (with_reducible rfl))
        try simp only [Act.put, List.setIfInBounds_toArray, List.set_cons_zero, List.set_cons_succ]
        refine till_take 10 (v := ?_) rfl (by kernel_rfl) (fun _ _ _ h => h) (Or.inl ⟨by rfl, ?_⟩) hS ?_
        rotate_left
        focus (intro w' hSw; obtain ⟨hs0, hs1, hs2, hs3, hs4, hs5, hs6⟩ := hSw; go_simp; try (with_reducible rfl))
        try simp only [Act.put, List.setIfInBounds_toArray, List.set_cons_zero, List.set_cons_succ]
        refine till_take 11 (v := ?_) rfl (by kernel_rfl) (fun _ _ _ h => h) (Or.inl ⟨by rfl, ?_⟩) hS ?_
        rotate_left
        focus (intro w' hSw; obtain ⟨hs0, hs1, hs2, hs3, hs4, hs5, hs6⟩ := hSw; go_simp; try (with_reducible rfl))
        try simp only [Act.put, List.setIfInBounds_toArray, List.set_cons_zero, List.set_cons_succ]
        refine till_ready [12] (by kernel_rfl) (TillReady.cons 12 rfl (fun K hK => ?_) TillReady.nil)
        go_simp
        clear hS
        have hS := HSK.out _ hS1
        refine (Hid.out hK) _ _ (fun _ => hS) ?_
        try simp only [Act.put, List.setIfInBounds_toArray, List.set_cons_zero, List.set_cons_succ]
        refine till_ready [13] (by kernel_rfl) (TillReady.cons 13 rfl (fun K hK => ?_) TillReady.nil)
        go_simp
        refine (Hid.out hK) _ _ (fun h => absurd rfl h) ?_
        refine till_done (by kernel_rfl) ?_
        refine NoPanic.normal ?_
        go_upto_block 3 with fail
        generalize hW1 : World.drew _ = W1
        have hKd : VarAt W1 wr.heap.size 50 (encDone x) := by rw [← hW1]; exact VarAt.new wr 50 (encDone x)
        have hb1 : Below wr.heap.size wr W1 := by rw [← hW1]; exact (below1 _ _).drew
        obtain ⟨wo, rfl⟩ : ∃ wo : World, wo = wr := ⟨_, rfl⟩
        have HKD := Lib.hid hKd
        have HP1 := Lib.hid (HP.out.below hb1)
        have hbox := HP1.out.box
        have c0' := hbox.cell (j := 0) rfl
        have hbl' := hbox.lt
        have hd0 : W1.cell? ⟨b, o + X.length * 6, none⟩ = some (.int .i64 d.txn.id.s) := by rw [HP1.out.old.cell (p := ⟨b, o + X.length * 6, none⟩) hbx]; exact HDc.out.1
        have hd1 : W1.cell? ⟨b, o + X.length * 6 + 1, none⟩ = some (.int .i64 d.txn.id.q) := by rw [HP1.out.old.cell (p := ⟨b, o + X.length * 6 + 1, none⟩) hbx]; exact HDc.out.2
        clear hW1 hKd hb1 hbox c0 hw1 hw2 hmI hS0 hS1 HSK
        obtain ⟨⟨⟨s1, q1⟩, trd, tws, tra, trc, twa, twc⟩, dy, dst⟩ := d
        simp only at hd0 hd1
        go_wp2_with fail
        go_loopw [8] (fun k wr => DupRel ds ⟨⟨⟨s1, q1⟩, trd, tws, tra, trc, twa, twc⟩, dy, dst⟩ X.length W1 k wr) (fun k _ => X.length - (intOf k).toNat)
        case atStart => exact ⟨0, 0, by omega, rfl, fun x y hx => by omega, rfl⟩
        case round =>
          obtain ⟨k, m, hk, rfl, hno, hwm⟩ := hrel
          have HN := Lib.hid hno
          clear hno
          rcases Nat.lt_or_ge k X.length with hkl | hkg
          · subst hwm
            obtain ⟨b2, o2, y, hb2, -, hy, hy0, hy1, -, -, -, -⟩ := HQ1.out.doneAt (i := k) (by omega)
            cases hb2
            rw [← HP1.out.old.cell (p := ⟨b, o + k * 6, none⟩) hbx] at hy0
            rw [← HP1.out.old.cell (p := ⟨b, o + k * 6 + 1, none⟩) hbx] at hy1
            obtain ⟨⟨⟨s2, q2⟩, rd2, ws2, ra2, rc2, wa2, wc2⟩, y2, st2⟩ := y
            simp only at hy0 hy1
            have hkI : (k : Int) < (X.length : Int) := by omega
            have hkn : (k : Int) < (ds.length : Int) := by omega
            have hbW : b < W1.heap.size := Nat.lt_of_lt_of_le hbx HP1.out.old.size
            have heq := eql39 ⟨s2, q2⟩ ⟨s1, q1⟩
            simp only at heq
            have HY := Lib.hid hy
            clear hy
            by_cases he : (⟨s2, q2⟩ : IdD) = ⟨s1, q1⟩
            · rw [decide_eq_true he] at heq
              have HE := Lib.hid he
              clear he
              go_wp2
              go_quiet (fail)
              go_wp2
              go_tidy
              exact ⟨rfl, below_drewN (below_drewN (HB2.out.trans (HP1.out.old.mono HB2.out.size)) _) _⟩
            · rw [decide_eq_false he] at heq
              have HE := Lib.hid he
              clear he
              go_wp2
              go_quiet (fail)
              go_wp2
              go_tidy
              refine ⟨⟨k + 1, _, by omega, rfl, fun x y hx hy => ?_, rfl⟩, by simp [intOf]; omega⟩
              rcases Nat.lt_or_ge x k with h1 | h1
              · exact HN.out x y h1 hy
              · obtain rfl : x = k := by omega
                rw [HY.out] at hy; cases hy; exact HE.out
          · obtain rfl : k = X.length := by omega
            have hbW1 : Below W1.heap.size W1 wr := by rw [hwm]; exact below_drewN (Below.refl _ _) _
            have HPr := Lib.hid (HP1.out.below hbW1)
            have HKr := Lib.hid (HKD.out.keep hbW1 HKD.out.lt)
            have hKr := HKr.out
            have k0 := hKr.cell (j := 0) rfl
            have k1 := hKr.cell (j := 1) rfl
            have k2 := hKr.cell (j := 2) rfl
            have k3 := hKr.cell (j := 3) rfl
            have k4 := hKr.cell (j := 4) rfl
            have k5 := hKr.cell (j := 5) rfl
            have kl := hKr.lt
            obtain ⟨va, vc, rfl⟩ := owns_slice HPr.out.r1
            have hout := HPr.out.out
            have e0 := hout.cell (j := 0) rfl
            have el := hout.lt
            have hXl : X.length ≤ 30 := by omega
            have HAP := Lib.hid (apart_push HA.out HD.out HN.out)
            have HTP := Lib.hid (turned_push HT.out HX.out)
            clear hbW1 hKr hout hwm hd0 hd1 c0'
            go_wp2_with (first
              | (at_builtin
                 refine wpList_append_fresh (wr.alloc (.cells (encDone x).toArray 50)) rfl (.tmp 59) (.tmp 61) 22 rfl (w2.heap.size + 1) 50 (.agg #[.int .i64 0, .int .i64 0, .slice none 0 0, .slice none 0 0, .bool false, .int .u64 0]) 6 80 underlying22 info50 rfl (by decide) (.slice va X.length vc) X.length (X.flatMap encDone) (by rfl) (HPr.out.r1.alloc _) ⟨wr.heap.size, 0, none⟩ 1 1 (encDone x) (by rfl) rfl (cell_new wr (encDone x) 50) (by simp [encDone, Value.oneCell']) (by unfold maxLen; omega) (by omega) (by have := HPr.out.out.lt; simp; omega) ?_
                 intro v5 w5 hT5 hg5 ho5
                 obtain ⟨a5, c5, rfl⟩ := owns_slice hT5
                 obtain ⟨hfin, g3, g1, g4⟩ := (HPr.out.below (below1 wr (.cells (encDone x).toArray 50))).push1 hT5 hg5
                 have z0 := g3.cell (j := 0) rfl
                 have zf := g3.free 0
                 have zl := g3.lt
                 have HFIN := Lib.hid hfin
                 clear hT5 hg5 ho5 hfin g1 g3 g4)
              | fail)
            go_tidy
            refine ⟨⟨_, X ++ [x], by simp; omega, by simp, HTP.out, ?_, HFIN.out⟩, by simp [intOf]; omega⟩
            rw [List.length_append]; exact HAP.out
      · have hXn : X.length = ds.length := by omega
        have hperm := turned_perm hT hXn
        rw [hXn] at hA
        have HWT := Lib.hid (apart_wit hA hperm)
        have HSG := Lib.hid (apart_single hA)
        have HPM := Lib.hid hperm
        have c1 := hp1.box.cell (j := 1) rfl
        have HXN := Lib.hid hXn
        have hXl : X.length ≤ 30 := by omega
        have hnl : ¬ ((X.length : Int) < (ds.length : Int)) := by omega
        have hsl : (seen.length : Int) ≤ 30 := by omega
        clear hT hA hperm hXn hp1
        obtain ⟨v1, rfl⟩ : ∃ v1, v1 = v := ⟨_, rfl⟩
        go_wp2_with fail
        obtain ⟨wo, rfl⟩ : ∃ wo : World, wo = wr := ⟨_, rfl⟩
        have HP0 := HP
        clear HP c0 c1 hbl
        go_loopw [9] (fun i wr => LR2 w2 [.slice da ds.length dc, .slice sa seen.length sc, .slice na snaps.length nc] w.heap.size v1 X seen i wr) (fun i _ => (intOf i + 1).toNat)
        case atStart => exact ⟨seen.length, _, Nat.le_refl _, rfl, by rw [List.drop_length]; exact HP0.out⟩
        case round =>
          obtain ⟨q, v2, hq, rfl, hp1⟩ := hrel
          have c1 := hp1.box.cell (j := 1) rfl
          have hbl := hp1.box.lt
          have HP := Lib.hid hp1
          cases q with
          | zero =>
            simp only [Int.ofNat_zero, Int.zero_sub]
            clear hp1
            have c2 := HP.out.box.cell (j := 2) rfl
            have HP2 := HP
            clear HP
            obtain ⟨v22, rfl⟩ : ∃ v22, v22 = v2 := ⟨_, rfl⟩
            go_wp2_with fail
            obtain ⟨wa, rfl⟩ : ∃ wa : World, wa = wr := ⟨_, rfl⟩
            clear c1 c2 hbl
            rw [List.drop_zero] at HP2
            go_loopw [10] (fun i wr => LR3 w2 [.slice da ds.length dc, .slice sa seen.length sc, .slice na snaps.length nc] w.heap.size v1 v22 X seen.reverse snaps i wr) (fun i _ => (intOf i + 1).toNat)
            case atStart => exact ⟨snaps.length, _, Nat.le_refl _, rfl, by rw [List.drop_length]; exact HP2.out⟩
            case round =>
              obtain ⟨q, v3, hq, rfl, hp1⟩ := hrel
              have c1 := hp1.box.cell (j := 2) rfl
              have hbl := hp1.box.lt
              have HP := Lib.hid hp1
              cases q with
              | zero =>
                simp only [Int.ofNat_zero, Int.zero_sub]
                clear hp1
                rw [List.drop_zero] at HP
                have hp := HP.out
                obtain ⟨a1, k1, rfl⟩ := owns_slice hp.r1
                obtain ⟨a2, k2, rfl⟩ := owns_slice hp.r2
                obtain ⟨a3, k3, rfl⟩ := owns_slice hp.r3
                have hokx : HistOk wr ⟨X, seen.reverse, snaps.reverse, a1, k1, a2, k2, a3, k3⟩ := ⟨RowOf.of_owns (fun _ => rfl) hp.r1 rfl, RowOf.of_owns (fun _ => rfl) hp.r2 rfl, RowOf.of_owns (fun _ => rfl) hp.r3 rfl, fun d hd => (HO2.out.2.2.2.1 d (HPM.out.mem_iff.1 hd)).keep hp.old, fun x hx => (HO2.out.2.2.2.2 x (List.mem_reverse.1 hx)).keep hp.old⟩
                have hokr := HO2.out.keep hp.old
                have hBold := HB2.out.trans (hp.old.mono HB2.out.size)
                have HBO := Lib.hid hBold
                have sk : ∀ W, Below wr.heap.size wr W → Two3' w.heap.size w2.heap.size (.slice da ds.length dc) (.slice sa seen.length sc) (.slice na snaps.length nc) (.slice a1 X.length k1) (.slice a2 seen.length k2) (.slice a3 snaps.length k3) W := fun W hb => by
                  have g1 := hp.box.keep hb hp.box.lt
                  have g2 := hp.out.keep hb hp.out.lt
                  exact ⟨g1.cell (j := 0) rfl, g1.cell (j := 1) rfl, g1.cell (j := 2) rfl, g2.cell (j := 0) rfl, by simpa using g2.cell (j := 1) rfl, by simpa using g2.cell (j := 2) rfl⟩
                have t20 : ∀ W, Below wr.heap.size wr W → Calls Try.prog 20 #[.agg #[.slice da ds.length dc, .slice sa seen.length sc, .slice na snaps.length nc]] W (TellC (Serial ds seen) wr) := fun W hb => (c20 (hokr.keep hb) (by simp only; omega)).mono fun e w' ⟨b, h1, h2, h3⟩ => ⟨b, h1, h2, hb.trans (h3.mono hb.size)⟩
                have t20x : ∀ W, Below wr.heap.size wr W → Calls Try.prog 20 #[.agg #[.slice a1 X.length k1, .slice a2 seen.length k2, .slice a3 snaps.length k3]] W (TellC (Serial ds seen) wr) := fun W hb => by have h0 := c20 (hokx.keep hb) (by simp only; omega); simp only [HistD.agg, HistD.dv, HistD.sv, HistD.nv, List.length_reverse] at h0; exact h0.mono fun e w' ⟨b, h1, h2, h3⟩ => ⟨b, h1, Iff.trans h2 (serial_rev HWT.out), hb.trans (h3.mono hb.size)⟩
                have t22 : ∀ W, Below wr.heap.size wr W → Calls Try.prog 22 #[.agg #[.slice da ds.length dc, .slice sa seen.length sc, .slice na snaps.length nc]] W (TellC (Snapshots ds snaps) wr) := fun W hb => (c22 (hokr.keep hb) (by simp only; omega)).mono fun e w' ⟨b, h1, h2, h3⟩ => ⟨b, h1, h2, hb.trans (h3.mono hb.size)⟩
                have t22x : ∀ W, Below wr.heap.size wr W → Calls Try.prog 22 #[.agg #[.slice a1 X.length k1, .slice a2 seen.length k2, .slice a3 snaps.length k3]] W (TellC (Snapshots ds snaps) wr) := fun W hb => by have h0 := c22 (hokx.keep hb) (by simp only; omega); simp only [HistD.agg, HistD.dv, HistD.sv, HistD.nv, List.length_reverse] at h0; exact h0.mono fun e w' ⟨b, h1, h2, h3⟩ => ⟨b, h1, Iff.trans h2 (snaps_rev HWT.out), hb.trans (h3.mono hb.size)⟩
                have t18 : ∀ W, Below wr.heap.size wr W → Calls Try.prog 18 #[.agg #[.slice da ds.length dc, .slice sa seen.length sc, .slice na snaps.length nc]] W fun e w' => e = .returned (.bool true) ∧ Below wr.heap.size wr w' := fun W hb => (c18 (hokr.keep hb)).mono fun e w' ⟨b, h1, h2, h3⟩ => ⟨by rw [h1, h2.2 HSG.out], hb.trans (h3.mono hb.size)⟩
                have t15 : ∀ W, Below wr.heap.size wr W → Calls Try.prog 15 #[.agg #[.slice da ds.length dc, .slice sa seen.length sc, .slice na snaps.length nc]] W (IdsEnd2 ds wr) := fun W hb => (c15 (a := da) (cap := dc) (ds := ds) (.slice sa seen.length sc) (.slice na snaps.length nc) (hokr.keep hb).1 (by omega)).mono fun e w' ⟨v, h1, h2, h3⟩ => ⟨v, h1, h2, hb.trans (h3.mono hb.size)⟩
                have t15x : ∀ W, Below wr.heap.size wr W → Calls Try.prog 15 #[.agg #[.slice a1 X.length k1, .slice a2 seen.length k2, .slice a3 snaps.length k3]] W (IdsEnd3 ds wr W) := fun W hb => (c15 (a := a1) (cap := k1) (ds := X) (.slice a2 seen.length k2) (.slice a3 snaps.length k3) (hokx.keep hb).1 (by omega)).mono fun e w' ⟨v, h1, h2, h3⟩ => ⟨v, h1, by rw [HWT.out] at h2; exact h2, hb.trans (h3.mono hb.size), h3⟩
                have t14 : ∀ W v v', Below wr.heap.size wr W → RowOf encId 2 W v (idsOf (wit ds)) → RowOf encId 2 W v' (idsOf (wit ds)) → Calls Try.prog 14 #[v, v'] W fun e w' => e = .returned (.bool true) ∧ Below wr.heap.size wr w' := fun W v v' hb hv hv' => (c14 hv hv').mono fun e w' ⟨b, h1, h2, h3⟩ => ⟨by rw [h1, h2.2 rfl], hb.trans (h3.mono hb.size)⟩
                have SK := Lib.hid sk
                have G14 := Lib.hid t14
                have G15 := Lib.hid t15
                have G15X := Lib.hid t15x
                have G18 := Lib.hid t18
                have G20 := Lib.hid t20
                have G20X := Lib.hid t20x
                have G22 := Lib.hid t22
                have G22X := Lib.hid t22x
                have hz : Below wr.heap.size wr wr.drew := (Below.refl _ _).drew
                clear sk t14 t15 t15x t18 t20 t20x t22 t22x hp hokx hokr hBold c1 hbl hsl
                go_upto_region 22 with fail
                as_aux_lemma =>
                refine wp_region_noPanic ?_
                refine till_start (Two3' w.heap.size w2.heap.size (.slice da ds.length dc) (.slice sa seen.length sc) (.slice na snaps.length nc) (.slice a1 X.length k1) (.slice a2 seen.length k2) (.slice a3 snaps.length k3)) 23 (by kernel_rfl) ?_
                have hS := SK.out _ hz
                show AnyTill _ _ _ _ _ _ 24 (Array.replicate 24 false) _ _
                refine till_take 0 (v := ?_) rfl (by kernel_rfl) (fun _ _ _ h => h) (Or.inl ⟨by rfl, ?_⟩) hS ?_
                rotate_left
                focus (intro w' hSw; obtain ⟨hs0, hs1, hs2, hs3, hs4, hs5⟩ := hSw; go_simp; try (with_reducible rfl))
                try simp only [Act.put, List.setIfInBounds_toArray, List.set_cons_zero, List.set_cons_succ]
                refine till_take 2 (v := ?_) rfl (by kernel_rfl) (fun _ _ _ h => h) (Or.inl ⟨by rfl, ?_⟩) hS ?_
                rotate_left
                focus (intro w' hSw; obtain ⟨hs0, hs1, hs2, hs3, hs4, hs5⟩ := hSw; go_simp; try (with_reducible rfl))
                try simp only [Act.put, List.setIfInBounds_toArray, List.set_cons_zero, List.set_cons_succ]
                refine till_ready [1] (by kernel_rfl) (TillReady.cons 1 rfl (fun K hK => ?_) TillReady.nil)
                go_simp
                refine (G20.out wr.drew hz).mono ?_
                rintro e wx1 ⟨bb, rfl, hh, hz1⟩
                clear hS
                have hS := SK.out _ hz1
                refine (Hid.out hK) _ _ (fun _ => hS) ?_
                try simp only [Act.put, List.setIfInBounds_toArray, List.set_cons_zero, List.set_cons_succ]
                refine till_ready [3] (by kernel_rfl) (TillReady.cons 3 rfl (fun K hK => ?_) TillReady.nil)
                go_simp
                refine (G20X.out wx1 hz1).mono ?_
                rintro e wx2 ⟨b', rfl, hh', hz2⟩
                obtain rfl : b' = bb := by rw [Bool.eq_iff_iff, hh', hh]
                clear hh'
                clear hS
                have hS := SK.out _ hz2
                refine (Hid.out hK) _ _ (fun _ => hS) ?_
                try simp only [Act.put, List.setIfInBounds_toArray, List.set_cons_zero, List.set_cons_succ]
                refine till_take 4 (v := ?_) rfl (by kernel_rfl) (fun _ _ _ h => h) (Or.inl ⟨by rfl, ?_⟩) hS ?_
                rotate_left
                focus (intro w' hSw; obtain ⟨hs0, hs1, hs2, hs3, hs4, hs5⟩ := hSw; go_simp; try (with_reducible rfl))
                try simp only [Act.put, List.setIfInBounds_toArray, List.set_cons_zero, List.set_cons_succ]
                refine till_take 5 (v := ?_) rfl (by kernel_rfl) (fun _ _ _ h => h) (Or.inl ⟨by rfl, ?_⟩) hS ?_
                rotate_left
                focus (intro w' hSw; obtain ⟨hs0, hs1, hs2, hs3, hs4, hs5⟩ := hSw; go_simp; try (with_reducible rfl))
                try simp only [Act.put, List.setIfInBounds_toArray, List.set_cons_zero, List.set_cons_succ]
                refine till_take 6 (v := ?_) rfl (by kernel_rfl) (fun _ _ _ h => h) (Or.inl ⟨by rfl, ?_⟩) hS ?_
                rotate_left
                focus (intro w' hSw; obtain ⟨hs0, hs1, hs2, hs3, hs4, hs5⟩ := hSw; go_simp; try (with_reducible rfl))
                try simp only [Act.put, List.setIfInBounds_toArray, List.set_cons_zero, List.set_cons_succ]
                refine till_take 8 (v := ?_) rfl (by kernel_rfl) (fun _ _ _ h => h) (Or.inl ⟨by rfl, ?_⟩) hS ?_
                rotate_left
                focus (intro w' hSw; obtain ⟨hs0, hs1, hs2, hs3, hs4, hs5⟩ := hSw; go_simp; try (with_reducible rfl))
                try simp only [Act.put, List.setIfInBounds_toArray, List.set_cons_zero, List.set_cons_succ]
                refine till_ready [7] (by kernel_rfl) (TillReady.cons 7 rfl (fun K hK => ?_) TillReady.nil)
                go_simp
                refine (G22.out wx2 hz2).mono ?_
                rintro e wx3 ⟨bc, rfl, hi, hz3⟩
                clear hS
                have hS := SK.out _ hz3
                refine (Hid.out hK) _ _ (fun _ => hS) ?_
                try simp only [Act.put, List.setIfInBounds_toArray, List.set_cons_zero, List.set_cons_succ]
                refine till_ready [9] (by kernel_rfl) (TillReady.cons 9 rfl (fun K hK => ?_) TillReady.nil)
                go_simp
                refine (G22X.out wx3 hz3).mono ?_
                rintro e wx4 ⟨b', rfl, hi', hz4⟩
                obtain rfl : b' = bc := by rw [Bool.eq_iff_iff, hi', hi]
                clear hi'
                clear hS
                have hS := SK.out _ hz4
                refine (Hid.out hK) _ _ (fun _ => hS) ?_
                try simp only [Act.put, List.setIfInBounds_toArray, List.set_cons_zero, List.set_cons_succ]
                refine till_take 10 (v := ?_) rfl (by kernel_rfl) (fun _ _ _ h => h) (Or.inl ⟨by rfl, ?_⟩) hS ?_
                rotate_left
                focus (intro w' hSw; obtain ⟨hs0, hs1, hs2, hs3, hs4, hs5⟩ := hSw; go_simp; try (with_reducible rfl))
                try simp only [Act.put, List.setIfInBounds_toArray, List.set_cons_zero, List.set_cons_succ]
                refine till_take 11 (v := ?_) rfl (by kernel_rfl) (fun _ _ _ h => h) (Or.inl ⟨by rfl, ?_⟩) hS ?_
                rotate_left
                focus (intro w' hSw; obtain ⟨hs0, hs1, hs2, hs3, hs4, hs5⟩ := hSw; go_simp; try (with_reducible rfl))
                try simp only [Act.put, List.setIfInBounds_toArray, List.set_cons_zero, List.set_cons_succ]
                refine till_take 12 (v := ?_) rfl (by kernel_rfl) (fun _ _ _ h => h) (Or.inl ⟨by rfl, ?_⟩) hS ?_
                rotate_left
                focus (intro w' hSw; obtain ⟨hs0, hs1, hs2, hs3, hs4, hs5⟩ := hSw; go_simp; try (with_reducible rfl))
                try simp only [Act.put, List.setIfInBounds_toArray, List.set_cons_zero, List.set_cons_succ]
                refine till_take 13 (v := ?_) rfl (by kernel_rfl) (fun _ _ _ h => h) (Or.inl ⟨by rfl, ?_⟩) hS ?_
                rotate_left
                focus (intro w' hSw; obtain ⟨hs0, hs1, hs2, hs3, hs4, hs5⟩ := hSw; go_simp; try (with_reducible rfl))
                try simp only [Act.put, List.setIfInBounds_toArray, List.set_cons_zero, List.set_cons_succ]
                refine till_ready [14] (by kernel_rfl) (TillReady.cons 14 rfl (fun K hK => ?_) TillReady.nil)
                go_simp
                refine (G18.out wx4 hz4).mono ?_
                rintro e wx5 ⟨rfl, hz5⟩
                clear hS
                have hS := SK.out _ hz5
                refine (Hid.out hK) _ _ (fun _ => hS) ?_
                try simp only [Act.put, List.setIfInBounds_toArray, List.set_cons_zero, List.set_cons_succ]
                refine till_take 15 (v := ?_) rfl (by kernel_rfl) (fun _ _ _ h => h) (Or.inl ⟨by rfl, ?_⟩) hS ?_
                rotate_left
                focus (intro w' hSw; obtain ⟨hs0, hs1, hs2, hs3, hs4, hs5⟩ := hSw; go_simp; try (with_reducible rfl))
                try simp only [Act.put, List.setIfInBounds_toArray, List.set_cons_zero, List.set_cons_succ]
                refine till_take 16 (v := ?_) rfl (by kernel_rfl) (fun _ _ _ h => h) (Or.inl ⟨by rfl, ?_⟩) hS ?_
                rotate_left
                focus (intro w' hSw; obtain ⟨hs0, hs1, hs2, hs3, hs4, hs5⟩ := hSw; go_simp; try (with_reducible rfl))
                try simp only [Act.put, List.setIfInBounds_toArray, List.set_cons_zero, List.set_cons_succ]
                refine till_take 17 (v := ?_) rfl (by kernel_rfl) (fun _ _ _ h => h) (Or.inl ⟨by rfl, ?_⟩) hS ?_
                rotate_left
                focus (intro w' hSw; obtain ⟨hs0, hs1, hs2, hs3, hs4, hs5⟩ := hSw; go_simp; try (with_reducible rfl))
                try simp only [Act.put, List.setIfInBounds_toArray, List.set_cons_zero, List.set_cons_succ]
                refine till_take 19 (v := ?_) rfl (by kernel_rfl) (fun _ _ _ h => h) (Or.inl ⟨by rfl, ?_⟩) hS ?_
                rotate_left
                focus (intro w' hSw; obtain ⟨hs0, hs1, hs2, hs3, hs4, hs5⟩ := hSw; go_simp; try (with_reducible rfl))
                try simp only [Act.put, List.setIfInBounds_toArray, List.set_cons_zero, List.set_cons_succ]
                refine till_ready [18] (by kernel_rfl) (TillReady.cons 18 rfl (fun K hK => ?_) TillReady.nil)
                go_simp
                refine (G15.out wx5 hz5).mono ?_
                rintro e wx6 ⟨v15, rfl, hv15, hz6⟩
                obtain ⟨va5, vc5, rfl, -⟩ := id hv15
                have HV15 := Lib.hid hv15
                clear hv15
                clear hS
                have hS := SK.out _ hz6
                refine (Hid.out hK) _ _ (fun _ => hS) ?_
                try simp only [Act.put, List.setIfInBounds_toArray, List.set_cons_zero, List.set_cons_succ]
                refine till_ready [20] (by kernel_rfl) (TillReady.cons 20 rfl (fun K hK => ?_) TillReady.nil)
                go_simp
                refine (G15X.out wx6 hz6).mono ?_
                rintro e wx7 ⟨v16, rfl, hv16, hz7, hz67⟩
                have HV15B := Lib.hid (HV15.out.keep hz67)
                clear hz67
                obtain ⟨va6, vc6, rfl, -⟩ := id hv16
                have HV16 := Lib.hid hv16
                clear hv16
                clear hS
                have hS := SK.out _ hz7
                refine (Hid.out hK) _ _ (fun _ => hS) ?_
                try simp only [Act.put, List.setIfInBounds_toArray, List.set_cons_zero, List.set_cons_succ]
                refine till_ready [21] (by kernel_rfl) (TillReady.cons 21 rfl (fun K hK => ?_) TillReady.nil)
                go_simp
                refine (G14.out wx7 _ _ hz7 HV15B.out HV16.out).mono ?_
                rintro e wx8 ⟨rfl, hz8⟩
                clear hS
                have hS := SK.out _ hz8
                refine (Hid.out hK) _ _ (fun _ => hS) ?_
                try simp only [Act.put, List.setIfInBounds_toArray, List.set_cons_zero, List.set_cons_succ]
                refine till_take 22 (v := ?_) rfl (by kernel_rfl) (fun _ _ _ h => h) (Or.inl ⟨by rfl, ?_⟩) hS ?_
                rotate_left
                focus (intro w' hSw; obtain ⟨hs0, hs1, hs2, hs3, hs4, hs5⟩ := hSw; go_simp; try (with_reducible rfl))
                try simp only [Act.put, List.setIfInBounds_toArray, List.set_cons_zero, List.set_cons_succ]
                refine till_ready [23] (by kernel_rfl) (TillReady.cons 23 rfl (fun K hK => ?_) TillReady.nil)
                go_simp
                refine (Hid.out hK) _ _ (fun h => absurd rfl h) ?_
                refine till_done (by kernel_rfl) ?_
                refine NoPanic.normal ?_
                go_wp2
                go_tidy
                exact ⟨rfl, HBO.out.trans (hz8.mono HBO.out.size)⟩
              | succ m =>
                rw [show ((m + 1 : Nat) : Int) - 1 = (m : Int) by omega]
                obtain ⟨b, o, x, rfl, hbx, hx, hc0, hc1, hc2, hc3, hc4⟩ := HQ3.out.snapAt (i := m) (by omega)
                have hmI : (m : Int) < (snaps.length : Int) := by omega
                have hrv := rev_drop hx
                have c1' := hp1.out.cell (j := 2) rfl
                obtain ⟨va, vc, rfl⟩ := owns_slice hp1.r3
                have hol := hp1.out.lt
                have hbw : b < wr.heap.size := Nat.lt_of_lt_of_le hbx hp1.old.size
                have hYl : (snaps.drop (m + 1)).reverse.length ≤ 30 := by rw [List.length_reverse, List.length_drop]; omega
                generalize hY : (snaps.drop (m + 1)).reverse = Y at *
                have sk : ∀ W, Below wr.heap.size wr W → L3S w.heap.size w2.heap.size (.slice (some ⟨b, o, none⟩) snaps.length nc) (.slice va Y.length vc) b (o + m * 5) x W := fun W hb => by
                  have hP2 := hp1.below hb
                  have hW := hP2.old
                  exact ⟨hP2.box.cell (j := 2) rfl, hP2.out.cell (j := 2) rfl, by rw [hW.cell (p := ⟨b, o + m * 5, none⟩) hbx]; exact hc0, by rw [hW.cell (p := ⟨b, o + m * 5 + 1, none⟩) hbx]; exact hc1, by rw [hW.cell (p := ⟨b, o + m * 5 + 2, none⟩) hbx]; exact hc2, by rw [hW.cell (p := ⟨b, o + m * 5 + 3, none⟩) hbx]; exact hc3, by rw [hW.cell (p := ⟨b, o + m * 5 + 4, none⟩) hbx]; exact hc4⟩
                have HSK := Lib.hid sk
                have HC := Lib.hid (show w2.cell? ⟨b, o + m * 5, none⟩ = some (.int .i64 x.session) ∧ w2.cell? ⟨b, o + m * 5 + 1, none⟩ = some (.int .u64 x.stamp) ∧ w2.cell? ⟨b, o + m * 5 + 2, none⟩ = some (.int .u64 x.floor) ∧ w2.cell? ⟨b, o + m * 5 + 3, none⟩ = some (x.kv) ∧ w2.cell? ⟨b, o + m * 5 + 4, none⟩ = some (x.vv) from ⟨hc0, hc1, hc2, hc3, hc4⟩)
                have HRV := Lib.hid hrv
                have HY := Lib.hid hY
                clear sk hc0 hc1 hc2 hc3 hc4 hx hp1 hrv hY
                have hS0 : Below wr.heap.size wr wr := Below.refl _ _
                have hS1 : Below wr.heap.size wr (wr.drew.alloc (.cells (encSnap x).toArray 64)) := hS0.drew.alloc (Nat.le_refl _) _
                go_wp2
                refine wp_region_noPanic ?_
                refine till_start (L3S w.heap.size w2.heap.size (.slice (some ⟨b, o, none⟩) snaps.length nc) (.slice va Y.length vc) b (o + m * 5) x) 10 (by kernel_rfl) ?_
                have hS := HSK.out wr.drew hS0.drew
                show AnyTill _ _ _ _ _ _ 11 (Array.replicate 11 false) _ _
                refine till_take 0 (v := ?_) rfl (by kernel_rfl) (fun _ _ _ h => h) (Or.inl ⟨by rfl, ?_⟩) hS ?_
                rotate_left
                focus (intro w' hSw; obtain ⟨hs0, hs1, hs2, hs3, hs4, hs5, hs6⟩ := hSw; go_simp; try (with_reducible rfl))
                try simp only [Act.put, List.setIfInBounds_toArray, List.set_cons_zero, List.set_cons_succ]
                refine till_take 1 (v := ?_) rfl (by kernel_rfl) (fun _ _ _ h => h) (Or.inl ⟨by rfl, ?_⟩) hS ?_
                rotate_left
                focus (intro w' hSw; obtain ⟨hs0, hs1, hs2, hs3, hs4, hs5, hs6⟩ := hSw; go_simp; try (with_reducible rfl))
                try simp only [Act.put, List.setIfInBounds_toArray, List.set_cons_zero, List.set_cons_succ]
                refine till_take 2 (v := ?_) rfl (by kernel_rfl) (fun _ _ _ h => h) (Or.inl ⟨by rfl, ?_⟩) hS ?_
                rotate_left
                focus (intro w' hSw; obtain ⟨hs0, hs1, hs2, hs3, hs4, hs5, hs6⟩ := hSw; go_simp; try (with_reducible rfl))
                try simp only [Act.put, List.setIfInBounds_toArray, List.set_cons_zero, List.set_cons_succ]
                refine till_take 3 (v := ?_) rfl (by kernel_rfl) (fun _ _ _ h => h) (Or.inl ⟨by rfl, ?_⟩) hS ?_
                rotate_left
                focus (intro w' hSw; obtain ⟨hs0, hs1, hs2, hs3, hs4, hs5, hs6⟩ := hSw; go_simp; try (with_reducible rfl))
                try simp only [Act.put, List.setIfInBounds_toArray, List.set_cons_zero, List.set_cons_succ]
                refine till_take 4 (v := ?_) rfl (by kernel_rfl) (fun _ _ _ h => h) (Or.inl ⟨by rfl, ?_⟩) hS ?_
                rotate_left
                focus (intro w' hSw; obtain ⟨hs0, hs1, hs2, hs3, hs4, hs5, hs6⟩ := hSw; go_simp; try (with_reducible rfl))
                try simp only [Act.put, List.setIfInBounds_toArray, List.set_cons_zero, List.set_cons_succ]
                refine till_take 5 (v := ?_) rfl (by kernel_rfl) (fun _ _ _ h => h) (Or.inl ⟨by rfl, ?_⟩) hS ?_
                rotate_left
                focus (intro w' hSw; obtain ⟨hs0, hs1, hs2, hs3, hs4, hs5, hs6⟩ := hSw; go_simp; try (with_reducible rfl))
                try simp only [Act.put, List.setIfInBounds_toArray, List.set_cons_zero, List.set_cons_succ]
                refine till_take 6 (v := ?_) rfl (by kernel_rfl) (fun _ _ _ h => h) (Or.inl ⟨by rfl, ?_⟩) hS ?_
                rotate_left
                focus (intro w' hSw; obtain ⟨hs0, hs1, hs2, hs3, hs4, hs5, hs6⟩ := hSw; go_simp; try (with_reducible rfl))
                try simp only [Act.put, List.setIfInBounds_toArray, List.set_cons_zero, List.set_cons_succ]
                refine till_ready [7] (by kernel_rfl) (TillReady.cons 7 rfl (fun K hK => ?_) TillReady.nil)
                go_simp
                clear hS
                have hS := HSK.out _ hS1
                refine (Hid.out hK) _ _ (fun _ => hS) ?_
                try simp only [Act.put, List.setIfInBounds_toArray, List.set_cons_zero, List.set_cons_succ]
                refine till_ready [8] (by kernel_rfl) (TillReady.cons 8 rfl (fun K hK => ?_) TillReady.nil)
                refine step_append_fresh (wr.drew.alloc (.cells (encSnap x).toArray 64)) rfl (.tmp 91) (.tmp 97) 24 rfl (w2.heap.size + 1) 64 (.agg #[.int .i64 0, .int .u64 0, .int .u64 0, .slice none 0 0, .slice none 0 0]) 5 72 und64 info64 rfl (by decide) (.slice va Y.length vc) Y.length (Y.flatMap encSnap) (by rfl) (HP.out.r3.drew.alloc _) ⟨wr.heap.size, 0, none⟩ 1 1 (encSnap x) (by rfl) rfl (cell_new wr.drew (encSnap x) 64) (by simp [encSnap, Value.oneCell']) (by unfold maxLen; omega) (by omega) (by have := HP.out.out.lt; simp; omega) ?_
                intro v5 w3 hT3 hg3 ho3
                obtain ⟨a5, c5, rfl⟩ := owns_slice hT3
                obtain ⟨hfin, g3, g1, g4⟩ := (HP.out.below hS1).push3 hT3 hg3
                have hS3 : L3S w.heap.size w2.heap.size (.slice (some ⟨b, o, none⟩) snaps.length nc) (.slice va Y.length vc) b (o + m * 5) x w3 := ⟨g1.cell (j := 2) rfl, g3.cell (j := 2) rfl, by rw [g4.cell (p := ⟨b, o + m * 5, none⟩) hbx]; exact HC.out.1, by rw [g4.cell (p := ⟨b, o + m * 5 + 1, none⟩) hbx]; exact HC.out.2.1, by rw [g4.cell (p := ⟨b, o + m * 5 + 2, none⟩) hbx]; exact HC.out.2.2.1, by rw [g4.cell (p := ⟨b, o + m * 5 + 3, none⟩) hbx]; exact HC.out.2.2.2.1, by rw [g4.cell (p := ⟨b, o + m * 5 + 4, none⟩) hbx]; exact HC.out.2.2.2.2⟩
                have q0 := g3.cell (j := 2) rfl
                have qf := g3.free 2
                have ql := g3.lt
                have HFIN := Lib.hid hfin
                clear hT3 hg3 ho3 hfin g1 g3 g4 hS
                have hS := hS3
                clear hS3
                refine (Hid.out hK) _ _ (fun _ => hS) ?_
                try simp only [Act.put, List.setIfInBounds_toArray, List.set_cons_zero, List.set_cons_succ]
                refine till_take 9 (v := ?_) rfl (by kernel_rfl) (fun _ _ _ h => h) (Or.inl ⟨by rfl, ?_⟩) hS ?_
                rotate_left
                focus (intro w' hSw; obtain ⟨hs0, hs1, hs2, hs3, hs4, hs5, hs6⟩ := hSw; go_simp; try (with_reducible rfl))
                try simp only [Act.put, List.setIfInBounds_toArray, List.set_cons_zero, List.set_cons_succ]
                refine till_ready [10] (by kernel_rfl) (TillReady.cons 10 rfl (fun K hK => ?_) TillReady.nil)
                go_simp
                refine (Hid.out hK) _ _ (fun h => absurd rfl h) ?_
                refine till_done (by kernel_rfl) ?_
                refine NoPanic.normal ?_
                go_wp2
                go_tidy
                refine ⟨⟨m, .slice a5 (Y.length + 1) c5, by omega, rfl, ?_⟩, by simp [intOf]⟩
                rw [HRV.out]; exact HFIN.out
          | succ m =>
            rw [show ((m + 1 : Nat) : Int) - 1 = (m : Int) by omega]
            obtain ⟨b, o, x, rfl, hbx, hx, hc0, hc1, hc2, hc3, hc4, hc5⟩ := HQ2.out.seenAt (i := m) (by omega)
            have hmI : (m : Int) < (seen.length : Int) := by omega
            have hrv := rev_drop hx
            have c1' := hp1.out.cell (j := 1) rfl
            obtain ⟨va, vc, rfl⟩ := owns_slice hp1.r2
            have hol := hp1.out.lt
            have hbw : b < wr.heap.size := Nat.lt_of_lt_of_le hbx hp1.old.size
            have hYl : (seen.drop (m + 1)).reverse.length ≤ 30 := by rw [List.length_reverse, List.length_drop]; omega
            generalize hY : (seen.drop (m + 1)).reverse = Y at *
            have sk : ∀ W, Below wr.heap.size wr W → L2S w.heap.size w2.heap.size (.slice (some ⟨b, o, none⟩) seen.length sc) (.slice va Y.length vc) b (o + m * 6) x W := fun W hb => by
              have hP2 := hp1.below hb
              have hW := hP2.old
              exact ⟨hP2.box.cell (j := 1) rfl, hP2.out.cell (j := 1) rfl, by rw [hW.cell (p := ⟨b, o + m * 6, none⟩) hbx]; exact hc0, by rw [hW.cell (p := ⟨b, o + m * 6 + 1, none⟩) hbx]; exact hc1, by rw [hW.cell (p := ⟨b, o + m * 6 + 2, none⟩) hbx]; exact hc2, by rw [hW.cell (p := ⟨b, o + m * 6 + 3, none⟩) hbx]; exact hc3, by rw [hW.cell (p := ⟨b, o + m * 6 + 4, none⟩) hbx]; exact hc4, by rw [hW.cell (p := ⟨b, o + m * 6 + 5, none⟩) hbx]; exact hc5⟩
            have HSK := Lib.hid sk
            have HC := Lib.hid (show w2.cell? ⟨b, o + m * 6, none⟩ = some (.int .i64 x.id.s) ∧ w2.cell? ⟨b, o + m * 6 + 1, none⟩ = some (.int .i64 x.id.q) ∧ w2.cell? ⟨b, o + m * 6 + 2, none⟩ = some (.string x.key) ∧ w2.cell? ⟨b, o + m * 6 + 3, none⟩ = some (.int .i64 x.val.kind) ∧ w2.cell? ⟨b, o + m * 6 + 4, none⟩ = some (.int .u64 x.val.bits) ∧ w2.cell? ⟨b, o + m * 6 + 5, none⟩ = some (.string x.val.text) from ⟨hc0, hc1, hc2, hc3, hc4, hc5⟩)
            have HRV := Lib.hid hrv
            have HY := Lib.hid hY
            clear sk hc0 hc1 hc2 hc3 hc4 hc5 hx hp1 hrv hY
            have hS0 : Below wr.heap.size wr wr := Below.refl _ _
            have hS1 : Below wr.heap.size wr (wr.drew.alloc (.cells (encSeen x).toArray 60)) := hS0.drew.alloc (Nat.le_refl _) _
            go_wp2
            refine wp_region_noPanic ?_
            refine till_start (L2S w.heap.size w2.heap.size (.slice (some ⟨b, o, none⟩) seen.length sc) (.slice va Y.length vc) b (o + m * 6) x) 10 (by kernel_rfl) ?_
            have hS := HSK.out wr.drew hS0.drew
            show AnyTill _ _ _ _ _ _ 11 (Array.replicate 11 false) _ _
            refine till_take 0 (v := ?_) rfl (by kernel_rfl) (fun _ _ _ h => h) (Or.inl ⟨by rfl, ?_⟩) hS ?_
            rotate_left
            focus (intro w' hSw; obtain ⟨hs0, hs1, hs2, hs3, hs4, hs5, hs6, hs7⟩ := hSw; go_simp; try (with_reducible rfl))
            try simp only [Act.put, List.setIfInBounds_toArray, List.set_cons_zero, List.set_cons_succ]
            refine till_take 1 (v := ?_) rfl (by kernel_rfl) (fun _ _ _ h => h) (Or.inl ⟨by rfl, ?_⟩) hS ?_
            rotate_left
            focus (intro w' hSw; obtain ⟨hs0, hs1, hs2, hs3, hs4, hs5, hs6, hs7⟩ := hSw; go_simp; try (with_reducible rfl))
            try simp only [Act.put, List.setIfInBounds_toArray, List.set_cons_zero, List.set_cons_succ]
            refine till_take 2 (v := ?_) rfl (by kernel_rfl) (fun _ _ _ h => h) (Or.inl ⟨by rfl, ?_⟩) hS ?_
            rotate_left
            focus (intro w' hSw; obtain ⟨hs0, hs1, hs2, hs3, hs4, hs5, hs6, hs7⟩ := hSw; go_simp; try (with_reducible rfl))
            try simp only [Act.put, List.setIfInBounds_toArray, List.set_cons_zero, List.set_cons_succ]
            refine till_take 3 (v := ?_) rfl (by kernel_rfl) (fun _ _ _ h => h) (Or.inl ⟨by rfl, ?_⟩) hS ?_
            rotate_left
            focus (intro w' hSw; obtain ⟨hs0, hs1, hs2, hs3, hs4, hs5, hs6, hs7⟩ := hSw; go_simp; try (with_reducible rfl))
            try simp only [Act.put, List.setIfInBounds_toArray, List.set_cons_zero, List.set_cons_succ]
            refine till_take 4 (v := ?_) rfl (by kernel_rfl) (fun _ _ _ h => h) (Or.inl ⟨by rfl, ?_⟩) hS ?_
            rotate_left
            focus (intro w' hSw; obtain ⟨hs0, hs1, hs2, hs3, hs4, hs5, hs6, hs7⟩ := hSw; go_simp; try (with_reducible rfl))
            try simp only [Act.put, List.setIfInBounds_toArray, List.set_cons_zero, List.set_cons_succ]
            refine till_take 5 (v := ?_) rfl (by kernel_rfl) (fun _ _ _ h => h) (Or.inl ⟨by rfl, ?_⟩) hS ?_
            rotate_left
            focus (intro w' hSw; obtain ⟨hs0, hs1, hs2, hs3, hs4, hs5, hs6, hs7⟩ := hSw; go_simp; try (with_reducible rfl))
            try simp only [Act.put, List.setIfInBounds_toArray, List.set_cons_zero, List.set_cons_succ]
            refine till_take 6 (v := ?_) rfl (by kernel_rfl) (fun _ _ _ h => h) (Or.inl ⟨by rfl, ?_⟩) hS ?_
            rotate_left
            focus (intro w' hSw; obtain ⟨hs0, hs1, hs2, hs3, hs4, hs5, hs6, hs7⟩ := hSw; go_simp; try (with_reducible rfl))
            try simp only [Act.put, List.setIfInBounds_toArray, List.set_cons_zero, List.set_cons_succ]
            refine till_ready [7] (by kernel_rfl) (TillReady.cons 7 rfl (fun K hK => ?_) TillReady.nil)
            go_simp
            clear hS
            have hS := HSK.out _ hS1
            refine (Hid.out hK) _ _ (fun _ => hS) ?_
            try simp only [Act.put, List.setIfInBounds_toArray, List.set_cons_zero, List.set_cons_succ]
            refine till_ready [8] (by kernel_rfl) (TillReady.cons 8 rfl (fun K hK => ?_) TillReady.nil)
            refine step_append_fresh (wr.drew.alloc (.cells (encSeen x).toArray 60)) rfl (.tmp 73) (.tmp 79) 23 rfl (w2.heap.size + 1) 60 (.agg #[.int .i64 0, .int .i64 0, .string ⟨#[]⟩, .int .i64 0, .int .u64 0, .string ⟨#[]⟩]) 6 64 und60 info60 rfl (by decide) (.slice va Y.length vc) Y.length (Y.flatMap encSeen) (by rfl) (HP.out.r2.drew.alloc _) ⟨wr.heap.size, 0, none⟩ 1 1 (encSeen x) (by rfl) rfl (cell_new wr.drew (encSeen x) 60) (by simp [encSeen, Value.oneCell']) (by unfold maxLen; omega) (by omega) (by have := HP.out.out.lt; simp; omega) ?_
            intro v5 w3 hT3 hg3 ho3
            obtain ⟨a5, c5, rfl⟩ := owns_slice hT3
            obtain ⟨hfin, g3, g1, g4⟩ := (HP.out.below hS1).push2 hT3 hg3
            have hS3 : L2S w.heap.size w2.heap.size (.slice (some ⟨b, o, none⟩) seen.length sc) (.slice va Y.length vc) b (o + m * 6) x w3 := ⟨g1.cell (j := 1) rfl, g3.cell (j := 1) rfl, by rw [g4.cell (p := ⟨b, o + m * 6, none⟩) hbx]; exact HC.out.1, by rw [g4.cell (p := ⟨b, o + m * 6 + 1, none⟩) hbx]; exact HC.out.2.1, by rw [g4.cell (p := ⟨b, o + m * 6 + 2, none⟩) hbx]; exact HC.out.2.2.1, by rw [g4.cell (p := ⟨b, o + m * 6 + 3, none⟩) hbx]; exact HC.out.2.2.2.1, by rw [g4.cell (p := ⟨b, o + m * 6 + 4, none⟩) hbx]; exact HC.out.2.2.2.2.1, by rw [g4.cell (p := ⟨b, o + m * 6 + 5, none⟩) hbx]; exact HC.out.2.2.2.2.2⟩
            have q0 := g3.cell (j := 1) rfl
            have qf := g3.free 1
            have ql := g3.lt
            have HFIN := Lib.hid hfin
            clear hT3 hg3 ho3 hfin g1 g3 g4 hS
            have hS := hS3
            clear hS3
            refine (Hid.out hK) _ _ (fun _ => hS) ?_
            try simp only [Act.put, List.setIfInBounds_toArray, List.set_cons_zero, List.set_cons_succ]
            refine till_take 9 (v := ?_) rfl (by kernel_rfl) (fun _ _ _ h => h) (Or.inl ⟨by rfl, ?_⟩) hS ?_
            rotate_left
            focus (intro w' hSw; obtain ⟨hs0, hs1, hs2, hs3, hs4, hs5, hs6, hs7⟩ := hSw; go_simp; try (with_reducible rfl))
            try simp only [Act.put, List.setIfInBounds_toArray, List.set_cons_zero, List.set_cons_succ]
            refine till_ready [10] (by kernel_rfl) (TillReady.cons 10 rfl (fun K hK => ?_) TillReady.nil)
            go_simp
            refine (Hid.out hK) _ _ (fun h => absurd rfl h) ?_
            refine till_done (by kernel_rfl) ?_
            refine NoPanic.normal ?_
            go_wp2
            go_tidy
            refine ⟨⟨m, .slice a5 (Y.length + 1) c5, by omega, rfl, ?_⟩, by simp [intOf]⟩
            rw [HRV.out]; exact HFIN.out
theorem listsWalk (v0 v1 : Value) (w : World) (a0 : ArgAt Try.prog 26 v0 w) (a1 : ArgAt Try.prog 5 v1 w) : Calls Try.prog 6 #[v0, v1] w fun e w' => e = .returned (.bool true) ∧ Below w.heap.size w w' := by
  obtain ⟨h, ok, rfl⟩ := a0.hist
  obtain ⟨n, rfl, hn⟩ := a1.int Try.underlying5
  obtain ⟨p, rfl⟩ : ∃ p : Nat, n = (p : Int) := ⟨n.toNat, by simp [Lit.wf, IntKind.min, IntKind.max, IntKind.signed, IntKind.bits] at hn; omega⟩
  exact c6 ok p (by simp [Lit.wf, IntKind.min, IntKind.max, IntKind.signed, IntKind.bits] at hn; omega)
end Go.Proofs.Ytmdfilffoomckaa
