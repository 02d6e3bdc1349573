/- The queue and the reference beside each other; the acts that are told. Conditions: each law's own. -/
import Derived.Test.YtamjdghjaimihaaSLaws
namespace Go.Proofs.Ytamjdghjaimihaa
set_option linter.unusedVariables false
open Go.ChangeShapes Go.WideShapes Go.ChangeAt Go.RowKit

/-- The two beside each other: x the queue, y the reference; what the one holds the other does not write. -/
structure Two (w : World) (x y : Nat) (g : Int) (S T : QS) (M : List MemO) (v : Value) (L : List RefO) (lv : Value) (B : Nat) : Prop where
  q : QAt w x g S M v B
  r : RefAt w y g T L lv B
  sep : ∀ k, QZone x M v k → ¬ RZone y L lv k
/-- What an act on both leaves. -/
structure TStep (x y : Nat) (w : World) (M : List MemO) (v : Value) (L : List RefO) (lv : Value) (w' : World) (M' : List MemO) (v' : Value) (L' : List RefO) (lv' : Value) : Prop where
  os : w'.os = w.os
  tape : w'.tape = w.tape
  output : w'.output = w.output
  size : w.heap.size ≤ w'.heap.size
  block : ∀ k, k < w.heap.size → ¬ QOwn x M v k → ¬ ROwn y lv k → w'.heap[k]? = w.heap[k]?
  own : ∀ k, QOwn x M' v' k ∨ ROwn y lv' k → (QOwn x M v k ∨ ROwn y lv k) ∨ w.heap.size ≤ k
  zone : ∀ k, QZone x M' v' k ∨ RZone y L' lv' k → (QZone x M v k ∨ RZone y L lv k) ∨ w.heap.size ≤ k
section
variable {w w' w1 : World} {x y : Nat} {g : Int} {S S' T T' : QS} {M M' M1 : List MemO} {v v' v1 : Value} {L L' L1 : List RefO} {lv lv' lv1 : Value} {B : Nat}
theorem TStep.of_below (hb : Below w.heap.size w w') : TStep x y w M v L lv w' M v L lv := ⟨hb.os, hb.tape, hb.output, hb.size, fun k hk _ _ => hb.block k hk, fun _ h => .inl h, fun _ h => .inl h⟩
theorem TStep.trans (h : TStep x y w M v L lv w1 M1 v1 L1 lv1) (h2 : TStep x y w1 M1 v1 L1 lv1 w' M' v' L' lv') : TStep x y w M v L lv w' M' v' L' lv' :=
  ⟨h2.os.trans h.os, h2.tape.trans h.tape, h2.output.trans h.output, Nat.le_trans h.size h2.size,
    fun k hk hn hr => by
      have hno : ¬ (QOwn x M1 v1 k ∨ ROwn y lv1 k) := fun h3 => by
        rcases h.own k h3 with (h4 | h4) | h4
        · exact hn h4
        · exact hr h4
        · omega
      rw [h2.block k (Nat.lt_of_lt_of_le hk h.size) (fun h3 => hno (.inl h3)) (fun h3 => hno (.inr h3)), h.block k hk hn hr],
    fun k hk => by
      rcases h2.own k hk with h3 | h3
      · exact h.own k h3
      · exact .inr (Nat.le_trans h.size h3),
    fun k hk => by
      rcases h2.zone k hk with h3 | h3
      · exact h.zone k h3
      · exact .inr (Nat.le_trans h.size h3)⟩
theorem QStep.two (h : QStep x w M v w' M' v') : TStep x y w M v L lv w' M' v' L lv :=
  ⟨h.os, h.tape, h.output, h.size, fun k hk hn _ => h.block k hk hn, fun k hk => by
    rcases hk with h1 | h1
    · exact (h.own k h1).imp .inl id
    · exact .inl (.inr h1), fun k hk => by
    rcases hk with h1 | h1
    · exact (h.zone k h1).imp .inl id
    · exact .inl (.inr h1)⟩
theorem RStep.two (h : RStep y w L lv w' L' lv') : TStep x y w M v L lv w' M v L' lv' :=
  ⟨h.os, h.tape, h.output, h.size, fun k hk _ hn => h.block k hk hn, fun k hk => by
    rcases hk with h1 | h1
    · exact .inl (.inl h1)
    · exact (h.own k h1).imp .inr id, fun k hk => by
    rcases hk with h1 | h1
    · exact .inl (.inl h1)
    · exact (h.zone k h1).imp .inr id⟩
theorem Two.below (h : Two w x y g S T M v L lv B) (hb : Below w.heap.size w w') : Two w' x y g S T M v L lv B := ⟨h.q.below hb, h.r.below hb, h.sep⟩
theorem Two.qstep (h : Two w x y g S T M v L lv B) (hq : QAt w' x g S' M' v' B) (hs : QStep x w M v w' M' v') : Two w' x y g S' T M' v' L lv B where
  q := hq
  r := h.r.keep fun k hk hz => hs.block k hk fun ho => h.sep k (.inl ho) hz
  sep := fun k hk hr => by
    rcases hs.zone k hk with h1 | h1
    · exact h.sep k h1 hr
    · have := (h.r.zone hr).2; omega
theorem Two.rstep (h : Two w x y g S T M v L lv B) (hr : RefAt w' y g T' L' lv' B) (hs : RStep y w L lv w' L' lv') : Two w' x y g S T' M v L' lv' B where
  q := h.q.keep hs.size fun k hk hz => hs.block k hk fun ho => h.sep k hz (.inl ho)
  r := hr
  sep := fun k hk hz => by
    rcases hs.zone k hz with h1 | h1
    · exact h.sep k hk h1
    · have := (h.q.zone hk).2; omega
theorem Two.zoneLow (h : Two w x y g S T M v L lv B) {k : Nat} (hk : QZone x M v k ∨ RZone y L lv k) : B ≤ k ∧ k < w.heap.size := by
  rcases hk with h1 | h1
  · exact h.q.zone h1
  · exact h.r.zone h1
theorem Two.lowB (h : Two w x y g S T M v L lv B) : B ≤ w.heap.size := Nat.le_of_lt (Nat.lt_of_le_of_lt h.q.lowX h.q.box.lt)
/-- What lies below the two is left as it is. -/
theorem TStep.below (hs : TStep x y w M v L lv w' M' v' L' lv') (h : Two w x y g S T M v L lv B) : Below B w w' :=
  ⟨hs.os, hs.tape, hs.output, hs.size, fun k hk => by
    have := h.lowB
    refine hs.block k (by omega) (fun h1 => ?_) (fun h1 => ?_)
    · have := (h.zoneLow (.inl (.inl h1))).1; omega
    · have := (h.zoneLow (.inr (.inl h1))).1; omega⟩
/-- A box of the caller's own, that neither of the two reads or writes. -/
def Apt (x y : Nat) (M : List MemO) (v : Value) (L : List RefO) (lv : Value) (c : Nat) : Prop := ¬ QZone x M v c ∧ ¬ RZone y L lv c
theorem TStep.apt (hs : TStep x y w M v L lv w' M' v' L' lv') {c : Nat} (hc : c < w.heap.size) (h : Apt x y M v L lv c) : Apt x y M' v' L' lv' c := by
  have hno : ¬ (QZone x M' v' c ∨ RZone y L' lv' c) := fun h3 => by
    rcases hs.zone c h3 with (h4 | h4) | h4
    · exact h.1 h4
    · exact h.2 h4
    · omega
  exact ⟨fun h1 => hno (.inl h1), fun h1 => hno (.inr h1)⟩
theorem TStep.var (hs : TStep x y w M v L lv w' M' v' L' lv') {c : Nat} {t : TypeId} {cs : List Value} (hc : VarAt w c t cs) (h : Apt x y M v L lv c) : VarAt w' c t cs := by
  unfold VarAt; rw [hs.block c hc.lt (fun h1 => h.1 (.inl h1)) (fun h1 => h.2 (.inl h1))]; exact hc
theorem Two.aptNew (h : Two w x y g S T M v L lv B) {n : Nat} (hn : w.heap.size ≤ n) : Apt x y M v L lv n :=
  ⟨fun h1 => by have := (h.zoneLow (.inl h1)).2; omega, fun h1 => by have := (h.zoneLow (.inr h1)).2; omega⟩
theorem Two.apt (h : Two w x y g S T M v L lv B) : Apt x y M v L lv w.heap.size := h.aptNew (Nat.le_refl _)
/-- A write elsewhere. -/
theorem Two.elsewhere (h : Two w x y g S T M v L lv B) {c : Nat} (hc : Apt x y M v L lv c) (hs : w.heap.size ≤ w'.heap.size) (hk : ∀ k, k ≠ c → w'.heap[k]? = w.heap[k]?) : Two w' x y g S T M v L lv B where
  q := h.q.keep hs fun k _ hz => hk k fun e => hc.1 (e ▸ hz)
  r := h.r.keep fun k _ hz => hk k fun e => hc.2 (e ▸ hz)
  sep := h.sep
end

/-! ### The acts -/
abbrev OpM := OpD × Value
def encOp (o : OpM) : List Value := [.int .i64 o.1.kind, .int .i64 o.1.id.s, .int .i64 o.1.id.q, o.2, .int .i64 o.1.group, .int .u64 o.1.stamp]
def opV (o : OpM) : Value := .agg #[.int .i64 o.1.kind, .int .i64 o.1.id.s, .int .i64 o.1.id.q, o.2, .int .i64 o.1.group, .int .u64 o.1.stamp]
def OpOk (w : World) (o : OpM) : Prop := RowOf encG 1 w o.2 o.1.groups ∧ 0 ≤ o.1.stamp
theorem OpOk.keep {w w' : World} {o : OpM} (h : OpOk w o) (hb : Below w.heap.size w w') : OpOk w' o := ⟨h.1.keep hb, h.2⟩
/-! ### Are they few? -/
def fewD (xs : List OpM) : Bool := (xs.take 100).all (fun o => decide (o.1.groups.length ≤ 10)) && decide (xs.length ≤ 60)
def FewRel (xs : List OpM) (w : World) (i : Value) (wr : World) : Prop := ∃ m : Nat, m ≤ xs.length ∧ m ≤ 100 ∧ i = .int .i64 m ∧ (∀ (k : Nat) o, k < m → xs[k]? = some o → o.1.groups.length ≤ 10) ∧ Below w.heap.size w wr
/-- Few: 'true' tells that no act has more than ten groups, and that there are at most sixty. -/
def FewEnd (xs : List OpM) (w : World) (e : Ending) (w' : World) : Prop :=
  ∃ b : Bool, e = .returned (.bool b) ∧ Below w.heap.size w w' ∧ (b = true → xs.length ≤ 60 ∧ ∀ o ∈ xs, o.1.groups.length ≤ 10)
theorem RowOf.opAt {w w' : World} {b o n cap : Nat} {xs : List OpM} (hc : ∀ i j x u, xs[i]? = some x → (encOp x)[j]? = some u → w.cell? ⟨b, o + i * 6 + j, none⟩ = some u) (hl : b < w.heap.size) (hb : Below w.heap.size w w') {i : Nat} {x : OpM} (hx : xs[i]? = some x) :
    ∀ j u, (encOp x)[j]? = some u → w'.cell? ⟨b, o + i * 6 + j, none⟩ = some u := fun j u hu => by
  rw [hb.cell (p := ⟨b, o + i * 6 + j, none⟩) hl]; exact hc i j x u hx hu
set_option maxHeartbeats 4000000 in
set_option maxRecDepth 100000 in
theorem c21 {w : World} {v : Value} {xs : List OpM} (h : RowOf encOp 6 w v xs) (hok : ∀ o ∈ xs, OpOk w o) : Calls Try.prog 21 #[v] w (FewEnd xs w) := by
  refine gen (S := FewEnd xs w) fun R hR => ?_
  obtain ⟨a, cap, rfl, h1, h2, h3⟩ := h
  have H3 := Lib.hid h3
  have HOK := Lib.hid hok
  have HR := Lib.hid hR
  unfold maxLen at h2
  clear h3 hok hR
  go_enter Try.func21, Try.ntmps21
  go_wp2
  go_loopw [3] (fun i wr => FewRel xs w i wr) (fun i _ => xs.length - (intOf i).toNat)
  case atStart => exact ⟨0, by omega, by omega, rfl, fun k o hk => by omega, Below.refl _ _⟩
  case round =>
    obtain ⟨m, hm, hm1, rfl, hall, hb⟩ := hrel
    have HA := Lib.hid hall
    have HB := Lib.hid hb
    clear hall hb
    rcases Nat.lt_or_ge m xs.length with hlt | hge
    · have hmI : (m : Int) < (xs.length : Int) := by omega
      rcases Nat.lt_or_ge m 100 with h100 | h100
      · have hmH : (m : Int) < 100 := by omega
        obtain ⟨o, ho⟩ : ∃ o, xs[m]? = some o := ⟨xs[m], List.getElem?_eq_getElem hlt⟩
        obtain ⟨b, off, rfl, hbl, hc⟩ := H3.out (by omega)
        obtain ⟨ga, gc, hgv, hgl1, hgl2, -⟩ := id (HOK.out o (List.mem_of_getElem? ho)).1
        unfold maxLen at hgl2
        have f2 := RowOf.opAt (n := 0) (cap := 0) hc hbl HB.out ho 3 _ rfl
        rw [hgv] at f2
        have hbw := Nat.lt_of_lt_of_le hbl HB.out.size
        have HO := Lib.hid ho
        have HLT := Lib.hid hlt
        have H100 := Lib.hid h100
        clear hc ho hbl hlt h100 hgv
        by_cases hg : (o.1.groups.length : Int) > 10
        · go_wp2
          go_tidy
          exact HR.out _ _ ⟨false, rfl, HB.out, fun h => by cases h⟩
        · have HG := Lib.hid hg
          go_wp2
          go_tidy
          refine ⟨⟨m + 1, HLT.out, H100.out, rfl, fun k z hk hz => ?_, HB.out⟩, by have := HLT.out; simp [intOf]; omega⟩
          rcases Nat.lt_or_ge k m with h4 | h4
          · exact HA.out k z h4 hz
          · obtain rfl : k = m := by omega
            rw [HO.out] at hz; cases hz; have := HG.out; omega
      · have hmH : ¬ (m : Int) < 100 := by omega
        have hl60 : ¬ (xs.length : Int) ≤ 60 := by omega
        go_wp2
        go_tidy
        exact HR.out _ _ ⟨false, rfl, HB.out, fun h => by cases h⟩
    · obtain rfl : m = xs.length := by omega
      by_cases hl60 : (xs.length : Int) ≤ 60
      · have HL := Lib.hid hl60
        go_wp2
        go_tidy
        refine HR.out _ _ ⟨true, rfl, HB.out, fun _ => ⟨by have := HL.out; omega, fun o ho => ?_⟩⟩
        obtain ⟨k, hk⟩ := List.getElem?_of_mem ho
        exact HA.out k o (List.getElem?_eq_some_iff.1 hk).1 hk
      · go_wp2
        go_tidy
        exact HR.out _ _ ⟨false, rfl, HB.out, fun h => by cases h⟩
/-! ### The same ids -/
def IdsRel (xs : List IdD) (w : World) (i : Value) (wr : World) : Prop := ∃ m : Nat, m ≤ xs.length ∧ i = .int .i64 m ∧ Below w.heap.size w wr
set_option maxHeartbeats 4000000 in
set_option maxRecDepth 100000 in
theorem c29 {w : World} {v u : Value} {xs : List IdD} (h : RowOf encId 2 w v xs) (k : RowOf encId 2 w u xs) : Calls Try.prog 29 #[v, u] w fun e w' => e = .returned (.bool true) ∧ Below w.heap.size w w' := by
  refine gen fun R hR => ?_
  obtain ⟨a, cap, rfl, h1, h2, h3⟩ := h
  obtain ⟨a', cap', rfl, k1, k2, k3⟩ := k
  have H3 := Lib.hid h3
  have K3 := Lib.hid k3
  have HR := Lib.hid hR
  have he := fun (i : IdD) W => neq31 i i W
  have HB0 : ∀ W n, Below w.heap.size w W → Below w.heap.size w (W.drewN n) := fun W n hb => hb.trans ⟨rfl, rfl, rfl, Nat.le_refl _, fun _ _ => rfl⟩
  have HD := Lib.hid HB0
  unfold maxLen at h2
  clear h3 k3 hR HB0
  go_enter Try.func29, Try.ntmps29
  go_wp2
  go_loopw [5] (fun i wr => IdsRel xs w i wr) (fun i _ => xs.length - (intOf i).toNat)
  case atStart => exact ⟨0, by omega, rfl, Below.refl _ _⟩
  case round =>
    obtain ⟨m, hm, rfl, hb⟩ := hrel
    have HB := Lib.hid hb
    clear hb
    rcases Nat.lt_or_ge m xs.length with hlt | hge
    · have hmI : (m : Int) < (xs.length : Int) := by omega
      obtain ⟨i, hi⟩ : ∃ i, xs[m]? = some i := ⟨xs[m], List.getElem?_eq_getElem hlt⟩
      obtain ⟨b, off, rfl, hbl, hc⟩ := H3.out (by omega)
      obtain ⟨b', off', rfl, hbl', hc'⟩ := K3.out (by omega)
      have f0 : wr.cell? ⟨b, off + m * 2 + 0, none⟩ = some (.int .i64 i.s) := by rw [HB.out.cell (p := ⟨b, off + m * 2 + 0, none⟩) hbl]; exact hc m 0 i _ hi rfl
      have f1 : wr.cell? ⟨b, off + m * 2 + 1, none⟩ = some (.int .i64 i.q) := by rw [HB.out.cell (p := ⟨b, off + m * 2 + 1, none⟩) hbl]; exact hc m 1 i _ hi rfl
      have f2 : wr.cell? ⟨b', off' + m * 2 + 0, none⟩ = some (.int .i64 i.s) := by rw [HB.out.cell (p := ⟨b', off' + m * 2 + 0, none⟩) hbl']; exact hc' m 0 i _ hi rfl
      have f3 : wr.cell? ⟨b', off' + m * 2 + 1, none⟩ = some (.int .i64 i.q) := by rw [HB.out.cell (p := ⟨b', off' + m * 2 + 1, none⟩) hbl']; exact hc' m 1 i _ hi rfl
      have hbw := Nat.lt_of_lt_of_le hbl HB.out.size
      have hbw' := Nat.lt_of_lt_of_le hbl' HB.out.size
      have HLT := Lib.hid hlt
      rw [Nat.add_zero] at f0 f2
      have hei := he i
      have hii : decide (i = i) = true := decide_eq_true rfl
      clear hc hc' hi hbl hbl' hlt
      go_upto_region 6 with fail
      go_quiet (fail)
      go_wp2
      go_tidy
      exact ⟨⟨m + 1, HLT.out, rfl, HD.out _ _ HB.out⟩, by have := HLT.out; simp [intOf]; omega⟩
    · obtain rfl : m = xs.length := by omega
      go_wp2
      go_tidy
      exact HR.out _ _ ⟨rfl, HB.out⟩
end Go.Proofs.Ytamjdghjaimihaa
