/- The queue in memory; how one that waits is found. Conditions: each law's own. -/
import Derived.Test.YtamjdghjaimihaaQSort
import Derived.Laws.StructEq
import Derived.Deep.QuietTactic
import Derived.BigQuiet
namespace Go.Proofs.Ytamjdghjaimihaa
open Go.ChangeShapes Go.WideShapes Go.ChangeAt Go.RowKit

structure QAt (w : World) (x : Nat) (g : Int) (S : QS) (M : List MemO) (v : Value) (B : Nat) : Prop where
  box : VarAt w x 78 [.int .i64 g, .int .u64 S.clock, v]
  row : Tail w B v M.length (M.map ptr)
  lst : M.map (·.o) = ord g S.L
  ok : QOk g S
  ones : ∀ y ∈ M, OneAt w g B y
  maps : M.Pairwise fun a b => a.m ≠ b.m
  sep : ∀ k, v.ownBlock = some k → k ≠ x ∧ ∀ y ∈ M, k ≠ y.p ∧ k ≠ y.m ∧ y.gs.ownBlock ≠ some k
  lowX : B ≤ x
  lowR : ∀ k, v.ownBlock = some k → B ≤ k ∧ k < w.heap.size
  g0 : 0 ≤ g ∧ g < 4
/-- The blocks that the queue writes; those that it reads. -/
def QOwn (x : Nat) (M : List MemO) (v : Value) (k : Nat) : Prop := k = x ∨ v.ownBlock = some k ∨ ∃ y ∈ M, k = y.p ∨ k = y.m
def QZone (x : Nat) (M : List MemO) (v : Value) (k : Nat) : Prop := QOwn x M v k ∨ ∃ y ∈ M, y.gs.ownBlock = some k
section
variable {w w' : World} {x : Nat} {g : Int} {S : QS} {M : List MemO} {v : Value} {B : Nat}
theorem QAt.keep (h : QAt w x g S M v B) (hs : w.heap.size ≤ w'.heap.size) (hb : ∀ k, k < w.heap.size → QZone x M v k → w'.heap[k]? = w.heap[k]?) : QAt w' x g S M v B where
  box := by unfold VarAt; rw [hb x h.box.lt (.inl (.inl rfl))]; exact h.box
  row := h.row.keep hs fun k hk _ hlt => hb k hlt (.inl (.inr (.inl hk)))
  lst := h.lst
  ok := h.ok
  ones := fun y hy => (h.ones y hy).keep (hb _ (h.ones y hy).box.lt (.inl (.inr (.inr ⟨y, hy, .inl rfl⟩)))) (hb _ (h.ones y hy).map.lt (.inl (.inr (.inr ⟨y, hy, .inr rfl⟩)))) fun k hk => hb k ((h.ones y hy).row.lt k hk).2 (.inr ⟨y, hy, hk⟩)
  maps := h.maps
  sep := h.sep
  lowX := h.lowX
  lowR := fun k hk => ⟨(h.lowR k hk).1, Nat.lt_of_lt_of_le (h.lowR k hk).2 hs⟩
  g0 := h.g0
theorem QAt.below (h : QAt w x g S M v B) (hb : Below w.heap.size w w') : QAt w' x g S M v B := h.keep hb.size fun k hk _ => hb.block k hk
theorem QAt.okOf (h : QAt w x g S M v B) {y : MemO} (hy : y ∈ M) : OneOk g S.clock y.o := h.ok.ones y.o (ord_mem.1 (h.lst ▸ List.mem_map_of_mem hy))
theorem QAt.len (h : QAt w x g S M v B) : M.length = S.L.length := by have := congrArg List.length h.lst; rw [List.length_map, ord_len] at this; exact this
theorem QAt.zone (h : QAt w x g S M v B) {k : Nat} (hk : QZone x M v k) : B ≤ k ∧ k < w.heap.size := by
  rcases hk with (rfl | hk | ⟨y, hy, rfl | rfl⟩) | ⟨y, hy, hk⟩
  · exact ⟨h.lowX, h.box.lt⟩
  · exact h.lowR k hk
  · exact ⟨(h.ones y hy).lowP, (h.ones y hy).box.lt⟩
  · exact ⟨(h.ones y hy).lowM, (h.ones y hy).map.lt⟩
  · exact (h.ones y hy).row.lt k hk
end
theorem equal31 (a b : IdD) (w : World) : (Op.equal 31 (.agg #[.int .i64 a.s, .int .i64 a.q]) (.agg #[.int .i64 b.s, .int .i64 b.q])).run Try.prog w = .ok (decide (a = b)) w := by
  have hS : Try.prog.underlying 31 = some (.struct (Try.prog.fieldsOf 31)) := by kernel_rfl
  have hp : Try.prog.stoodInHeld 31 = false := by kernel_rfl
  have h0 : Op.equal 31 (.agg #[.int .i64 a.s, .int .i64 a.q]) (.agg #[.int .i64 b.s, .int .i64 b.q]) = Op.equalIn (9999 + 1) 31 (.agg #[.int .i64 a.s, .int .i64 a.q]) (.agg #[.int .i64 b.s, .int .i64 b.q]) := rfl
  rw [h0, run_equalIn_agg w 9999 31 _ _ hS hp]
  simp only [Program.fieldsOf, Try.underlying31]
  go_simp
  obtain ⟨a1, a2⟩ := a
  obtain ⟨b1, b2⟩ := b
  by_cases h1 : a1 = b1 <;> by_cases h2 : a2 = b2 <;> simp [h1, h2]
theorem eql31 (a b : IdD) (w : World) : (binOp .eql 31 (.agg #[.int .i64 a.s, .int .i64 a.q]) (.agg #[.int .i64 b.s, .int .i64 b.q])).run Try.prog w = .ok (.bool (decide (a = b))) w := by
  have := equal31 a b w
  simp only [binOp, Sem.run_bind, this, Result.andThen_ok]
  rfl
theorem neq31 (a b : IdD) (w : World) : (binOp .neq 31 (.agg #[.int .i64 a.s, .int .i64 a.q]) (.agg #[.int .i64 b.s, .int .i64 b.q])).run Try.prog w = .ok (.bool (!decide (a = b))) w := by
  have := equal31 a b w
  simp only [binOp, Sem.run_bind, this, Result.andThen_ok]
  rfl
/-! ### Sort -/
theorem c36 {w : World} {x : Nat} {g clock c : Int} {B : Nat} {M : List MemO} {v : Value} (hx : VarAt w x 78 [.int .i64 g, .int .u64 c, v]) (hT : Tail w B v M.length (M.map ptr)) (hM : ∀ y ∈ M, OneAt w g B y ∧ OneOk g clock y.o) (hpos : 0 < M.length)
    (hsep : ∀ k, v.ownBlock = some k → ∀ y ∈ M, k ≠ y.p ∧ k ≠ y.m ∧ y.gs.ownBlock ≠ some k) (hn : M.length < 4611686018427387904) :
    Calls Try.prog 36 #[.pointer (some ⟨x, 0, none⟩)] w (SortEnd w g B v M) := by
  refine gen (S := SortEnd w g B v M) fun R hR => ?_
  obtain ⟨ao, cap, rfl, -⟩ := id hT
  have f2 := hx.cell (j := 2) rfl
  have xl := hx.lt
  have H49 := Lib.hid (c49 hT hM hpos hsep hn)
  have HR := Lib.hid hR
  clear hx hT hM hpos hsep hn hR
  go_enter Try.func36, Try.ntmps36
  go_wp2_with (first | (go_at_call 49; refine H49.out.mono ?_; rintro e w' ⟨rfl, hm⟩) | fail)
  (try go_end0)
  exact HR.out _ _ ⟨rfl, hm⟩
/-! ### Find -/
theorem c48 {w : World} {g : Int} {B p : Nat} {y : MemO} {id : IdD} (hy : OneAt w g B y) (hp : VarAt w p 31 [.int .i64 id.s, .int .i64 id.q]) : Calls Try.prog 48 #[ptr y, .pointer (some ⟨p, 0, none⟩)] w fun e w' => e = .returned (.bool (decide (y.o.id = id))) ∧ Below w.heap.size w w' := by
  refine gen fun R hR => ?_
  obtain ⟨⟨yid, yg, yk⟩, yp, ym, yl, ymc, ygs⟩ := y
  have b0 := hy.box.cell (j := 0) rfl
  have b1 := hy.box.cell (j := 1) rfl
  have bl := hy.box.lt
  have p0 := hp.cell (j := 0) rfl
  have p1 := hp.cell (j := 1) rfl
  have pl := hp.lt
  have he := eql31 yid id
  have HB : ∀ n, Below w.heap.size w (w.drewN n) := fun n => ⟨rfl, rfl, rfl, Nat.le_refl _, fun _ _ => rfl⟩
  have HB := Lib.hid HB
  unfold ptr
  simp only at b0 b1 bl hR ⊢
  have HR := Lib.hid hR
  clear hy hp hR
  go_enter Try.func48, Try.ntmps48
  go_wp2_with fail
  go_quiet (fail)
  go_wp2
  go_tidy
  exact HR.out _ _ ⟨rfl, HB.out _⟩
/-- Where one stands: the first with the id. -/
def IdxRel (M : List MemO) (id : IdD) (w : World) (i : Value) (wr : World) : Prop := ∃ m : Nat, m ≤ M.length ∧ i = .int .i64 m ∧ (∀ (k : Nat) y, k < m → M[k]? = some y → y.o.id ≠ id) ∧ Below w.heap.size w wr
def IdxEnd (M : List MemO) (id : IdD) (w : World) (e : Ending) (w' : World) : Prop :=
  ∃ n : Int, e = .returned (.int .i64 n) ∧ Below w.heap.size w w' ∧ ((n = -1 ∧ ∀ y ∈ M, y.o.id ≠ id) ∨ ∃ (k : Nat) (y : MemO), n = (k : Int) ∧ M[k]? = some y ∧ y.o.id = id)
set_option maxHeartbeats 4000000 in
set_option maxRecDepth 100000 in
theorem c47 {w : World} {g : Int} {B base p : Nat} {M : List MemO} {v : Value} {id : IdD} (hT : Tail w base v M.length (M.map ptr)) (hM : ∀ y ∈ M, OneAt w g B y) (hp : VarAt w p 31 [.int .i64 id.s, .int .i64 id.q]) :
    Calls Try.prog 47 #[v, .func (.func 48) #[] #[.pointer (some ⟨p, 0, none⟩)]] w (IdxEnd M id w) := by
  refine gen (S := IdxEnd M id w) fun R hR => ?_
  obtain ⟨ao, cap, rfl, h1, h2, h3, -⟩ := (_root_.id hT)
  unfold maxLen at h3
  have h48 : ∀ W, Below w.heap.size w W → ∀ y ∈ M, Calls Try.prog 48 #[ptr y, .pointer (some ⟨p, 0, none⟩)] W fun e w' => e = .returned (.bool (decide (y.o.id = id))) ∧ Below W.heap.size W w' := fun W hb y hy => c48 ((hM y hy).below hb) (hp.keep hb hp.lt)
  have H48 := Lib.hid h48
  have HT := Lib.hid hT
  have HR := Lib.hid hR
  have eg : ∀ args w, (callFunc 48 args).run Try.prog w = .ok (.enter 48 args) w := enters_of Try.func48 (by kernel_rfl) rfl
  clear hT hM hp hR h48
  go_enter Try.func47, Try.ntmps47
  go_wp2
  go_loopw [8] (fun i wr => IdxRel M id w i wr) (fun i _ => M.length - (intOf i).toNat)
  case atStart => exact ⟨0, by omega, rfl, fun k d hk => by omega, Below.refl _ _⟩
  case round =>
    obtain ⟨m, hm, rfl, hno, hb⟩ := hrel
    have HN := Lib.hid hno
    have HB := Lib.hid hb
    rcases Nat.lt_or_ge m M.length with hlt | hge
    · obtain ⟨y, hy⟩ : ∃ y, M[m]? = some y := ⟨M[m], List.getElem?_eq_getElem hlt⟩
      obtain ⟨gb, off, rfl, -, hgl, hc⟩ := (HT.out.below hb (Nat.le_refl _)).cell (i := m) (u := ptr y) (by rw [List.getElem?_map, hy]; rfl)
      have hmI : (m : Int) < (M.length : Int) := by omega
      have HY := Lib.hid hy
      have HLT := Lib.hid hlt
      have h48 := H48.out wr hb y (List.mem_of_getElem? hy)
      have HC := Lib.hid h48
      unfold ptr at hc HC
      clear hno hb hy hlt h48
      go_wp2_with fail
      refine HC.out.mono ?_
      rintro e w2 ⟨rfl, hb2⟩
      have HB2 := Lib.hid (HB.out.trans (hb2.mono HB.out.size))
      clear hb2
      by_cases he : y.o.id = id
      · have hd : decide (y.o.id = id) = true := decide_eq_true he
        have HE := Lib.hid he
        clear he
        rw [hd]
        go_wp2_with fail
        go_tidy
        exact HR.out _ _ ⟨m, rfl, HB2.out, .inr ⟨m, y, rfl, HY.out, HE.out⟩⟩
      · have hd : decide (y.o.id = id) = false := decide_eq_false he
        have HE := Lib.hid he
        clear he
        rw [hd]
        go_wp2_with fail
        go_tidy
        refine ⟨⟨m + 1, HLT.out, rfl, fun k z hk hz => ?_, HB2.out⟩, by have := HLT.out; simp [intOf]; omega⟩
        rcases Nat.lt_or_ge k m with h4 | h4
        · exact HN.out k z h4 hz
        · obtain rfl : k = m := by omega
          rw [HY.out] at hz; cases hz; exact HE.out
    · obtain rfl : m = M.length := by omega
      have HA := Lib.hid (show ∀ y ∈ M, y.o.id ≠ id from fun y hy => by
        obtain ⟨k, hk⟩ := List.getElem?_of_mem hy
        exact hno k y (List.getElem?_eq_some_iff.1 hk).1 hk)
      clear hno hb
      go_wp2
      go_tidy
      exact HR.out _ _ ⟨-1, rfl, HB.out, .inl ⟨rfl, HA.out⟩⟩
/-- What find gives: the one, or none. -/
def FindEnd (M : List MemO) (id : IdD) (w : World) (e : Ending) (w' : World) : Prop :=
  Below w.heap.size w w' ∧ ((e = .returned (.pointer none) ∧ ∀ y ∈ M, y.o.id ≠ id) ∨ ∃ (k : Nat) (y : MemO), e = .returned (ptr y) ∧ M[k]? = some y ∧ y.o.id = id)
set_option maxHeartbeats 4000000 in
set_option maxRecDepth 100000 in
theorem c34 {w : World} {x : Nat} {g : Int} {S : QS} {M : List MemO} {v : Value} {B : Nat} (h : QAt w x g S M v B) (id : IdD) :
    Calls Try.prog 34 #[.pointer (some ⟨x, 0, none⟩), .agg #[.int .i64 id.s, .int .i64 id.q]] w (FindEnd M id w) := by
  refine gen (S := FindEnd M id w) fun R hR => ?_
  have hb0 : Below w.heap.size w (w.alloc (.cells #[.int .i64 id.s, .int .i64 id.q] 31)) := (Below.refl _ _).alloc (Nat.le_refl _) _
  have hI := VarAt.new w 31 [.int .i64 id.s, .int .i64 id.q]
  have h1 := h.below hb0
  have h47 := c47 h1.row h1.ones hI
  have hTr := h1.row
  obtain ⟨ao, cap, rfl, hl1, hl2, hl3, -⟩ := (_root_.id h1.row)
  unfold maxLen at hl3
  have f2 := h1.box.cell (j := 2) rfl
  have xl := h1.box.lt
  have H47 := Lib.hid h47
  have HQ := Lib.hid h1
  have HB0 := Lib.hid hb0
  have HR := Lib.hid hR
  clear h h1 hb0 hI h47 hR hTr
  go_enter Try.func34, Try.ntmps34
  go_upto_region 4 with (first | (go_at_call 47; refine H47.out.mono ?_; rintro e w2 ⟨n, rfl, hb2, hn⟩) | fail)
  have HB2 := Lib.hid (HB0.out.trans (hb2.mono HB0.out.size))
  have hq2 := HQ.out.below hb2
  rcases hn with ⟨rfl, hno⟩ | ⟨k, y, rfl, hy, he⟩
  · have HNO := Lib.hid hno
    clear hb2 hq2 hno f2 xl
    go_wp2
    go_tidy
    exact HR.out _ _ ⟨HB2.out, .inl ⟨rfl, HNO.out⟩⟩
  · have hkl := (List.getElem?_eq_some_iff.1 hy).1
    have hkI : (k : Int) < (M.length : Int) := by omega
    obtain ⟨gb, off, rfl, -, hgl, hc⟩ := hq2.row.cell (i := k) (u := ptr y) (by rw [List.getElem?_map, hy]; rfl)
    have e2 := hq2.box.cell (j := 2) rfl
    have el := hq2.box.lt
    have HY := Lib.hid (And.intro hy he)
    unfold ptr at hc
    clear hb2 hq2 hy he f2 xl hkl
    have hk0 : ¬ (k : Int) < 0 := by omega
    go_wp2
    go_tidy
    exact HR.out _ _ ⟨HB2.out, .inr ⟨k, y, rfl, HY.out.1, HY.out.2⟩⟩
end Go.Proofs.Ytamjdghjaimihaa
