/- The reference's store: writes are applied. Conditions: each law's own. -/
import Derived.Test.YtmdfilffoomckaaStore
import Derived.Test.YtmdfilffoomckaaPlain
import Derived.Deep.Upon
import Derived.Sort.Walk0
namespace Go.Proofs.Ytmdfilffoomckaa
open Go.ChangeShapes Go.WideShapes Go.ChangeAt Go.RowKit

theorem less_irrefl : ∀ l : List UInt8, Op.bytesLess l l = false
  | [] => rfl
  | a :: l => by
    show (a < a || (a == a && Op.bytesLess l l)) = false
    rw [less_irrefl l]; simp
theorem less_ne {a b : ByteArray} (h : Op.bytesLess a.toList b.toList = true) : a ≠ b := fun e => by subst e; rw [less_irrefl] at h; cases h
theorem own_mono {w : World} {base base' : Nat} {e : TypeId} {size : Nat} {v : Value} {n : Nat} {xs : List Value} (h : w.ownsRow base e size v n xs) (hb : base' ≤ base) : w.ownsRow base' e size v n xs := by
  obtain ⟨h1, h2⟩ := h
  refine ⟨h1, h2.imp id fun ⟨g, cap, cur, a, b, c⟩ => ⟨g, cap, cur, a, Nat.le_trans hb b, c⟩⟩
/-- What is put into the store. -/
def newItem (x : WrD) (at_ : Int) : ItemD := ⟨x.key, x.val, at_⟩
structure ApAt (w : World) (p base : Nat) (at_ last low : Int) (ws : List WrD) (L0 L : List ItemD) (v : Value) (j : Nat) (W : World) : Prop where
  st : VarAt W p 70 [v, .int .u64 last, .int .u64 low]
  row : W.ownsRow base 97 5 v L.length (L.flatMap encItem)
  grown : w.grownBy W (some p)
  len : L.length = L0.length + j
  seen : ∀ key t, seenL L key t = if at_ ≤ t then wrote (ws.take j) key (seenL L0 key t) else seenL L0 key t
  mem : ∀ x ∈ L, x ∈ L0 ∨ ∃ y ∈ ws, x.val = y.val
theorem grown_below {w W : World} (h : Below w.heap.size w W) (row : Option Nat) : w.grownBy W row := ⟨h.os, h.tape, h.output, h.size, fun k hk _ => h.block k hk⟩
theorem ApAt.start {w W : World} {p base : Nat} {at_ last low : Int} {ws : List WrD} {L0 : List ItemD} {v : Value} (hp : VarAt w p 70 [v, .int .u64 last, .int .u64 low]) (hr : w.ownsRow base 97 5 v L0.length (L0.flatMap encItem)) (hb : Below w.heap.size w W) : ApAt w p base at_ last low ws L0 L0 v 0 W :=
  ⟨hp.keep hb hp.lt, ownsRow_below hr hb, grown_below hb _, rfl, fun key t => by simp [wrote], fun x hx => .inl hx⟩
theorem ApAt.push {w W W' : World} {p base : Nat} {at_ last low : Int} {ws : List WrD} {L0 L : List ItemD} {v v' : Value} {j k : Nat} {x : WrD} (h : ApAt w p base at_ last low ws L0 L v j W) (hpb : p < base) (hbw : base ≤ w.heap.size) (hx : ws[j]? = some x) (hk : k ≤ L.length)
    (hn : ∀ (i : Nat) y, i < k → L[i]? = some y → y.key ≠ x.key) (hb : Below W.heap.size W W')
    (ho : W'.ownsRow W.heap.size 97 5 v' (L.length + 1) ((L.take k).flatMap encItem ++ encItem (newItem x at_) ++ (L.drop k).flatMap encItem)) :
    ApAt w p base at_ last low ws L0 (L.take k ++ [newItem x at_] ++ L.drop k) v' (j + 1) (W'.setCell ⟨p, 0, none⟩ v') := by
  have hplt := h.st.lt
  have hl : (L.take k ++ [newItem x at_] ++ L.drop k).length = L.length + 1 := by simp; omega
  have hne : ∀ u, W'.ownsRow base 97 5 v' (L.length + 1) u → (W'.setCell ⟨p, 0, none⟩ v').ownsRow base 97 5 v' (L.length + 1) u := fun u hu => owns_set hu (by simp; omega) v'
  refine ⟨(h.st.keep hb hplt).set 0 v', ?_, ?_, by rw [hl, h.len]; omega, fun key t => ?_, fun y hy => ?_⟩
  · rw [hl]
    have hf : (L.take k ++ [newItem x at_] ++ L.drop k).flatMap encItem = (L.take k).flatMap encItem ++ encItem (newItem x at_) ++ (L.drop k).flatMap encItem := by simp
    rw [hf]
    exact hne _ (own_mono ho (Nat.le_trans hbw h.grown.size))
  · refine ⟨hb.os.trans h.grown.os, hb.tape.trans h.grown.tape, hb.output.trans h.grown.output, Nat.le_trans h.grown.size (by simpa using hb.size), fun i hi hne => ?_⟩
    rw [Below.heap_setCell _ _ _ i (fun e => hne (by rw [e])), hb.block i (Nat.lt_of_lt_of_le hi h.grown.size), h.grown.block i hi hne]
  · rw [seen_put (x := newItem x at_) hn, h.seen key t, wrote_take hx]
    unfold Hit wr1 newItem
    by_cases h1 : at_ ≤ t <;> by_cases h2 : x.key = key <;> simp [h1, h2]
  · rcases List.mem_append.1 hy with h1 | h1
    · rcases List.mem_append.1 h1 with h2 | h2
      · exact h.mem y (List.mem_of_mem_take h2)
      · simp at h2; subst h2; exact .inr ⟨x, List.mem_of_getElem? hx, rfl⟩
    · exact h.mem y (List.mem_of_mem_drop h1)
def ApEnd (w : World) (p base : Nat) (at_ low : Int) (ws : List WrD) (L0 : List ItemD) (e : Ending) (w' : World) : Prop :=
  ∃ v L, e = .returned (.int .i64 0) ∧ ApAt w p base at_ at_ low ws L0 L v ws.length w'
theorem und97 : Try.prog.underlying 68 = some (.slice 97) := by kernel_rfl
theorem info97 : (Try.prog.info? 97).map (fun i => (i.zero, i.size, i.bytes)) = some (some (.agg #[.string ⟨#[]⟩, .int .i64 0, .int .u64 0, .string ⟨#[]⟩, .int .u64 0]), 5, 56) := by kernel_rfl
def ApS (b o i : Nat) (x : WrD) (W : World) : Prop := W.cell? ⟨b, o + i * 4, none⟩ = some (.string x.key) ∧ W.cell? ⟨b, o + i * 4 + 1, none⟩ = some (.int .i64 x.val.kind) ∧ W.cell? ⟨b, o + i * 4 + 2, none⟩ = some (.int .u64 x.val.bits) ∧ W.cell? ⟨b, o + i * 4 + 3, none⟩ = some (.string x.val.text)
theorem flat_len (L : List ItemD) : (L.flatMap encItem).length = L.length * 5 := by
  induction L with
  | nil => rfl
  | cons x L ih => rw [List.flatMap_cons, List.length_append, ih, List.length_cons, encItem_len]; omega
theorem flat_one (L : List ItemD) : ∀ u ∈ L.flatMap encItem, u.oneCell' = true := by
  intro u hu
  obtain ⟨x, -, h⟩ := List.mem_flatMap.1 hu
  simp [encItem] at h
  rcases h with h | h | h | h | h <;> subst h <;> rfl
theorem take_snoc {L : List ItemD} {k : Nat} {y : ItemD} (h : L[k]? = some y) : (L.take (k + 1)).flatMap encItem = (L.take k).flatMap encItem ++ encItem y := by
  rw [List.take_add_one, h]; simp
/-- The cells of what stands behind k. -/
theorem RowOf.behind {w : World} {b o n cap : Nat} {L : List ItemD} (h : RowOf encItem 5 w (.slice (some ⟨b, o, none⟩) n cap) L) (k : Nat) : ∀ j u, ((L.drop k).flatMap encItem)[j]? = some u → w.cell? ((⟨b, o + k * 5, none⟩ : Addr).add j) = some u := by
  intro j u hu
  rw [Go.WideShapes.add_plain]
  have hj : j < (L.drop k).length * 5 := by rw [← flat_len]; exact (List.getElem?_eq_some_iff.1 hu).1
  obtain ⟨a', cap', hv, h1, h2, h3⟩ := h
  cases hv
  have hd : j / 5 < (L.drop k).length := by omega
  have hx : (L.drop k)[j / 5]? = some (L.drop k)[j / 5] := List.getElem?_eq_getElem hd
  obtain ⟨b', o', ha, -, hc⟩ := h3 (by rw [List.length_drop] at hd; omega)
  cases ha
  have hmod : j % 5 < (encItem (L.drop k)[j / 5]).length := by rw [encItem_len]; omega
  have hy : (encItem (L.drop k)[j / 5])[j % 5]? = some ((encItem (L.drop k)[j / 5])[j % 5]'hmod) := List.getElem?_eq_getElem hmod
  have := flatMap_at (enc := encItem) (k := 5) encItem_len (L.drop k) (j / 5) (j % 5) _ _ hx hy
  rw [show j / 5 * 5 + j % 5 = j by omega, hu] at this
  cases this
  have hx' : L[k + j / 5]? = some (L.drop k)[j / 5] := by rw [← hx, List.getElem?_drop]
  have := hc (k + j / 5) (j % 5) _ _ hx' hy
  rw [show o + (k + j / 5) * 5 + j % 5 = o + k * 5 + j by omega] at this
  exact this
/-- An append of nothing. -/
theorem wpList_append_none {P : Program} (w : World) {ops : Array Oper} {rest : List Oper} {o : Oper} {a : Act} {Q : Exit → Act → World → Prop} (hgd : o.guard = none) (s x : Operand) (t : TypeId)
    (ho : o.op = .call { callee := .builtin .append, args := #[s, x], argTypes := #[t, t] }) (e : TypeId) (i : TypeInfo) (ht : P.underlying t = some (.slice e)) (hi : P.info? e = some i)
    (b : Option Addr) (n c : Nat) (hs : a.eval s = .slice b n c) (hle : n ≤ c) (q : Option Addr) (c2 : Nat) (hx : a.eval x = .slice q 0 c2)
    (h : wpList P ops Q rest (a.put o.dst (.slice b n c)) w) : wpList P ops Q (o :: rest) a w :=
  wpList_plain hgd fun _ hK => by
    have hr := run_append_nothing (P := P) w t t o.type e i ht hi b n c hle (.slice q 0 c2) ⟨.inl ⟨e, ht⟩, fun _ => rfl, by cases q with | none => exact run_firstCells_none (P := P) w _ _ _ _ | some q => exact run_firstCells_some (P := P) w i.size 0 q 0 c2 [] (by simp) (by simp), by cases q with | none => exact run_firstCells_none (P := P) w.drew _ _ _ _ | some q => exact run_firstCells_some (P := P) w.drew i.size 0 q 0 c2 [] (by simp) (by simp), by simp, by simp⟩
    unfold Oper.wp execOp
    simp only [ho, resolve, invoke, builtin, Sem.run_bind, Sem.run_pure, Result.andThen_ok, List.map_toArray, List.map_cons, List.map_nil, hs, hx, hr]
    exact hK _ _ h
/-- A fresh row has grown: what was there ahead of it is as it was. -/
theorem below_own {w W W' : World} {e : TypeId} {size n : Nat} {v : Value} {xs : List Value} {V : World} (h : Below w.heap.size w W) (hg : W.grownBy W' v.ownBlock) (ho : V.ownsRow w.heap.size e size v n xs) : Below w.heap.size w W' :=
  h.grown hg h.size fun k hk => (ho.lt k hk).1
theorem owns_cap {w : World} {base : Nat} {e : TypeId} {size n c : Nat} {a : Option Addr} {xs : List Value} (h : w.ownsRow base e size (.slice a n c) n xs) : n ≤ c := by
  obtain ⟨-, ⟨h1, h2⟩ | ⟨g, cap, cur, h1, -, -, h3, -⟩⟩ := h
  · cases h1; exact Nat.le_refl _
  · cases h1; exact h3
set_option maxHeartbeats 8000000 in
set_option maxRecDepth 1000000 in
theorem c27 {w w00 : World} {p base : Nat} {at_ last low : Int} {ws : List WrD} {wa : Option Addr} {wc : Nat} {L0 : List ItemD} {v : Value} (hp : VarAt w p 70 [v, .int .u64 last, .int .u64 low]) (hpb : p < base) (hbw : base ≤ w.heap.size)
    (hr : w.ownsRow base 97 5 v L0.length (L0.flatMap encItem)) (hl0 : L0.length ≤ 10000) (hlw : ws.length ≤ 10000) (hat : ¬ at_ ≤ last) (hws : RowOf encWr 4 w00 (.slice wa ws.length wc) ws) (h00 : Below w00.heap.size w00 w) (hp0 : w00.heap.size ≤ p) (hz : WrSize ws) (hok : WritesOk ws) :
    Calls Try.prog 27 #[.pointer (some ⟨p, 0, none⟩), .int .u64 at_, .slice wa ws.length wc] w (ApEnd w p base at_ low ws L0) := by
  refine gen (S := ApEnd w p base at_ low ws L0) fun R hR => ?_
  have h39 := fun W (hb : Below w.heap.size w W) => (c39 ((hws.keep h00).keep hb) hz).mono (R' := fun e w' => e = .returned (.bool true) ∧ Below W.heap.size W w') fun e w' ⟨b, h1, h2, h3⟩ => ⟨by rw [h1, h2.2 hok], h3⟩
  have hout : ∀ W v L, ApAt w p base at_ at_ low ws L0 L v ws.length W → R (.returned (.int .i64 0)) W := fun W v L h => hR _ _ ⟨v, L, rfl, h⟩
  have hatf : decide (at_ ≤ last) = false := decide_eq_false hat
  obtain ⟨a0, k0, rfl⟩ := owns_slice hr
  have c0 := hp.cell (j := 0) rfl
  have c1 := hp.cell (j := 1) rfl
  have pl := hp.lt
  have HP := Lib.hid hp
  have HPB := Lib.hid hpb
  have HBW := Lib.hid hbw
  have HR0 := Lib.hid hr
  have HWS := Lib.hid hws
  have H39 := Lib.hid h39
  have HOUT := Lib.hid hout
  have H00 := Lib.hid h00
  have HP0 := Lib.hid hp0
  clear hR h39 hout hp hpb hbw hr hws hz hok hat h00 hp0
  go_enter Try.func27, Try.ntmps27
  go_wp2_with (first | (go_at_call 39; refine (H39.out _ (Below.refl _ _)).mono ?_; rintro e w1 ⟨rfl, hb1⟩; have HB1 := Lib.hid hb1; clear hb1) | fail)
  have hst : ApAt w p base at_ last low ws L0 L0 (.slice a0 L0.length k0) 0 w1 := ApAt.start HP.out HR0.out HB1.out
  have HST := Lib.hid hst
  clear hst c0 c1 pl HB1
  go_loopw [7] (fun i wr => ∃ j L v, j ≤ ws.length ∧ i = .int .i64 (j : Nat) ∧ ApAt w p base at_ last low ws L0 L v j wr) (fun i _ => ws.length - (intOf i).toNat)
  case atStart => exact ⟨0, L0, _, by omega, rfl, HST.out⟩
  case round =>
    clear HST
    obtain ⟨j, L, v, hj, rfl, hA⟩ := hrel
    obtain ⟨a1, k1, rfl⟩ := owns_slice hA.row
    have HA := Lib.hid hA
    rcases Nat.lt_or_ge j ws.length with hlt | hge
    · obtain ⟨b, o, x, rfl, hbl, hx, hc0, hc1, hc2, hc3⟩ := HWS.out.wrAt hlt
      have hjI : (j : Int) < (ws.length : Int) := by omega
      have hLl : L.length ≤ 20000 := by have := hA.len; omega
      have hpl := hA.st.lt
      have hbp : b ≠ p := by have := HP0.out; omega
      have hbW : ∀ W, Below wr.heap.size wr W → ApS b o j x W := fun W hb => by
        have hb0 : b < w.heap.size := Nat.lt_of_lt_of_le hbl H00.out.size
        have hg := HA.out.grown
        have e : W.heap[b]? = w00.heap[b]? := by rw [hb.block b (Nat.lt_of_lt_of_le hb0 hg.size), hg.block b hb0 (by simp [hbp]), H00.out.block b hbl]
        have ec : ∀ i, W.cell? ⟨b, i, none⟩ = w00.cell? ⟨b, i, none⟩ := fun i => World.cell?_of_block (a := ⟨b, i, none⟩) e
        exact ⟨by rw [ec]; exact hc0, by rw [ec]; exact hc1, by rw [ec]; exact hc2, by rw [ec]; exact hc3⟩
      have HX := Lib.hid hx
      have HLT := Lib.hid hlt
      have HSK := Lib.hid hbW
      have hrow : RowOf encItem 5 wr (.slice a1 L.length k1) L := RowOf.of_owns encItem_len hA.row rfl
      have HROW := Lib.hid hrow
      clear hbW hx hlt hc0 hc1 hc2 hc3 hrow hA
      go_wp2
      obtain ⟨w0, rfl⟩ : ∃ w0 : World, w0 = wr := ⟨_, rfl⟩
      go_loopw [8, 9] (fun v8 i wr => ∃ (k : Nat) (q : Option Addr) (c : Nat), k ≤ L.length ∧ i = .int .i64 (k : Nat) ∧ v8 = .slice q k c ∧ (∀ (i : Nat) y, i < k → L[i]? = some y → y.key ≠ x.key) ∧ wr.ownsRow w0.heap.size 97 5 (.slice q k c) k ((L.take k).flatMap encItem) ∧ Below w0.heap.size w0 wr) (fun _ i _ => L.length - (intOf i).toNat)
      case atStart => exact ⟨0, none, 0, by omega, rfl, rfl, fun i y h => by omega, World.ownsRow_nil _ _ _ _, Below.refl _ _⟩
      case round =>
        obtain ⟨k, q, c, hk, rfl, rfl, hno, hown, hbr⟩ := hrel
        have g1 := HA.out.st.keep hbr hpl
        have p0 := g1.cell (j := 0) rfl
        have pl := g1.lt
        have pf := g1.free 0
        have HN := Lib.hid hno
        have HO := Lib.hid hown
        have HBR := Lib.hid hbr
        have HG1 := Lib.hid g1
        have s0 := HSK.out wr hbr
        obtain ⟨hs0, -, -, -⟩ := s0
        have hz : Below wr.heap.size wr wr := Below.refl _ _
        have hSK : ∀ W, Below wr.heap.size wr W → ApS b o j x W := fun W hb => HSK.out W (hbr.trans (hb.mono hbr.size))
        have HSK2 := Lib.hid hSK
        clear hno hown g1 hSK
        have more : ∀ y, L[k]? = some y → True := fun _ _ => trivial
        clear more
        rcases Nat.lt_or_ge k L.length with hkl | hkg
        · obtain ⟨b2, o2, y, rfl, hb2l, hy, hy0, hy1, hy2, hy3, hy4⟩ := (HROW.out.keep hbr).itemAt hkl
          have hkI : (k : Int) < (L.length : Int) := by omega
          have HY := Lib.hid hy
          have HKL := Lib.hid hkl
          clear hy hkl
          cases hless : Op.bytesLess y.key.toList x.key.toList with
          | true =>
            have HNE := Lib.hid (less_ne hless)
            go_wp2_with fail
            go_quiet (fail)
            go_wp2_with (first
              | (at_builtin
                 refine wpList_append_fresh ((wr.drewN nq).alloc (.cells (encItem y).toArray 97)) rfl (.tmp 48) (.tmp 56) 68 rfl w0.heap.size 97 (.agg #[.string ⟨#[]⟩, .int .i64 0, .int .u64 0, .string ⟨#[]⟩, .int .u64 0]) 5 56 und97 info97 rfl (by decide) (.slice q k c) k ((L.take k).flatMap encItem) (by rfl) ((show (wr.drewN nq).ownsRow w0.heap.size 97 5 (.slice q k c) k ((L.take k).flatMap encItem) from HO.out).alloc _) ⟨wr.heap.size, 0, none⟩ 1 1 (encItem y) (by rfl) rfl (cell_new (wr.drewN nq) (encItem y) 97) (by simp [encItem, Value.oneCell']) (by unfold maxLen; omega) (by omega) (by have := HBR.out.size; simp; omega) ?_
                 intro v5 w5 ho5 hg5 hT5
                 have hbb := below_own (HBR.out.trans ((below_drewN (Below.refl wr.heap.size wr) nq).alloc (Nat.le_refl _) (.cells (encItem y).toArray 97) |>.mono HBR.out.size)) hg5 HO.out
                 obtain ⟨a5, c5, rfl⟩ := owns_slice ho5
                 have HO5 := Lib.hid ho5
                 have HB5 := Lib.hid hbb
                 clear ho5 hg5 hT5 hbb)
              | fail)
            go_tidy
            refine ⟨⟨k + 1, a5, c5, HKL.out, rfl, rfl, fun i z hi hz => ?_, ?_, HB5.out⟩, by have := HKL.out; simp [intOf]; omega⟩
            · rcases Nat.lt_or_ge i k with h1 | h1
              · exact HN.out i z h1 hz
              · obtain rfl : i = k := by omega
                rw [HY.out] at hz; cases hz; exact HNE.out
            · rw [take_snoc HY.out]; exact HO5.out
          | false =>
            go_wp2_with fail
            go_quiet (fail)
            go_wp2_with fail
            obtain ⟨wd, hwd⟩ : ∃ wd : World, wd = wr.drewN nq := ⟨_, rfl⟩
            rw [← hwd]
            have hzd : Below wr.heap.size wr wd := by rw [hwd]; exact below_drewN (Below.refl _ _) _
            have HDS := Lib.hid (show wd.heap.size = wr.heap.size by rw [hwd]; rfl)
            have hod : wd.ownsRow w0.heap.size 97 5 (.slice q k c) k ((L.take k).flatMap encItem) := by rw [hwd]; exact HO.out
            have HOD := Lib.hid hod
            have HZD := Lib.hid hzd
            clear hod hzd hwd
            go_upto_region 13 with fail
            refine wp_region_noPanic ?_
            refine till_start (ApS b o j x) 15 (by kernel_rfl) ?_
            have hS := HSK2.out wd.drew HZD.out.drew
            show AnyTill _ _ _ _ _ _ 16 (Array.replicate 16 false) _ _
            refine till_take 0 (v := ?_) rfl (by kernel_rfl) (fun _ _ _ h => h) (Or.inl ⟨by rfl, ?_⟩) hS ?_
            rotate_left
            focus (intro w' hSw; obtain ⟨hs0, hs1, hs2, hs3⟩ := hSw; go_simp; try (with_reducible rfl))
            try simp only [Act.put, List.setIfInBounds_toArray, List.set_cons_zero, List.set_cons_succ]
            refine till_take 1 (v := ?_) rfl (by kernel_rfl) (fun _ _ _ h => h) (Or.inl ⟨by rfl, ?_⟩) hS ?_
            rotate_left
            focus (intro w' hSw; obtain ⟨hs0, hs1, hs2, hs3⟩ := hSw; go_simp; try (with_reducible rfl))
            try simp only [Act.put, List.setIfInBounds_toArray, List.set_cons_zero, List.set_cons_succ]
            refine till_take 2 (v := ?_) rfl (by kernel_rfl) (fun _ _ _ h => h) (Or.inl ⟨by rfl, ?_⟩) hS ?_
            rotate_left
            focus (intro w' hSw; obtain ⟨hs0, hs1, hs2, hs3⟩ := hSw; go_simp; try (with_reducible rfl))
            try simp only [Act.put, List.setIfInBounds_toArray, List.set_cons_zero, List.set_cons_succ]
            refine till_take 3 (v := ?_) rfl (by kernel_rfl) (fun _ _ _ h => h) (Or.inl ⟨by rfl, ?_⟩) hS ?_
            rotate_left
            focus (intro w' hSw; obtain ⟨hs0, hs1, hs2, hs3⟩ := hSw; go_simp; try (with_reducible rfl))
            try simp only [Act.put, List.setIfInBounds_toArray, List.set_cons_zero, List.set_cons_succ]
            refine till_take 4 (v := ?_) rfl (by kernel_rfl) (fun _ _ _ h => h) (Or.inl ⟨by rfl, ?_⟩) hS ?_
            rotate_left
            focus (intro w' hSw; obtain ⟨hs0, hs1, hs2, hs3⟩ := hSw; go_simp; try (with_reducible rfl))
            try simp only [Act.put, List.setIfInBounds_toArray, List.set_cons_zero, List.set_cons_succ]
            refine till_take 5 (v := ?_) rfl (by kernel_rfl) (fun _ _ _ h => h) (Or.inl ⟨by rfl, ?_⟩) hS ?_
            rotate_left
            focus (intro w' hSw; obtain ⟨hs0, hs1, hs2, hs3⟩ := hSw; go_simp; try (with_reducible rfl))
            try simp only [Act.put, List.setIfInBounds_toArray, List.set_cons_zero, List.set_cons_succ]
            refine till_take 6 (v := ?_) rfl (by kernel_rfl) (fun _ _ _ h => h) (Or.inl ⟨by rfl, ?_⟩) hS ?_
            rotate_left
            focus (intro w' hSw; obtain ⟨hs0, hs1, hs2, hs3⟩ := hSw; go_simp; try (with_reducible rfl))
            try simp only [Act.put, List.setIfInBounds_toArray, List.set_cons_zero, List.set_cons_succ]
            refine till_take 7 (v := ?_) rfl (by kernel_rfl) (fun _ _ _ h => h) (Or.inl ⟨by rfl, ?_⟩) hS ?_
            rotate_left
            focus (intro w' hSw; obtain ⟨hs0, hs1, hs2, hs3⟩ := hSw; go_simp; try (with_reducible rfl))
            try simp only [Act.put, List.setIfInBounds_toArray, List.set_cons_zero, List.set_cons_succ]
            refine till_take 8 (v := ?_) rfl (by kernel_rfl) (fun _ _ _ h => h) (Or.inl ⟨by rfl, ?_⟩) hS ?_
            rotate_left
            focus (intro w' hSw; obtain ⟨hs0, hs1, hs2, hs3⟩ := hSw; go_simp; try (with_reducible rfl))
            try simp only [Act.put, List.setIfInBounds_toArray, List.set_cons_zero, List.set_cons_succ]
            refine till_take 9 (v := ?_) rfl (by kernel_rfl) (fun _ _ _ h => h) (Or.inl ⟨by rfl, ?_⟩) hS ?_
            rotate_left
            focus (intro w' hSw; obtain ⟨hs0, hs1, hs2, hs3⟩ := hSw; go_simp; try (with_reducible rfl))
            try simp only [Act.put, List.setIfInBounds_toArray, List.set_cons_zero, List.set_cons_succ]
            refine till_take 10 (v := ?_) rfl (by kernel_rfl) (fun _ _ _ h => h) (Or.inl ⟨by rfl, ?_⟩) hS ?_
            rotate_left
            focus (intro w' hSw; obtain ⟨hs0, hs1, hs2, hs3⟩ := hSw; go_simp; try (with_reducible rfl))
            try simp only [Act.put, List.setIfInBounds_toArray, List.set_cons_zero, List.set_cons_succ]
            refine till_take 11 (v := ?_) rfl (by kernel_rfl) (fun _ _ _ h => h) (Or.inl ⟨by rfl, ?_⟩) hS ?_
            rotate_left
            focus (intro w' hSw; obtain ⟨hs0, hs1, hs2, hs3⟩ := hSw; go_simp; try (with_reducible rfl))
            try simp only [Act.put, List.setIfInBounds_toArray, List.set_cons_zero, List.set_cons_succ]
            refine till_take 12 (v := ?_) rfl (by kernel_rfl) (fun _ _ _ h => h) (Or.inl ⟨by rfl, ?_⟩) hS ?_
            rotate_left
            focus (intro w' hSw; obtain ⟨hs0, hs1, hs2, hs3⟩ := hSw; go_simp; try (with_reducible rfl))
            try simp only [Act.put, List.setIfInBounds_toArray, List.set_cons_zero, List.set_cons_succ]
            refine till_ready [13] (by kernel_rfl) (TillReady.cons 13 rfl (fun K hK => ?_) TillReady.nil)
            go_simp
            have hS := HSK2.out _ (HZD.out.drew.alloc HZD.out.size (.cells (encItem (newItem x at_)).toArray 97))
            refine (Hid.out hK) _ _ (fun _ => hS) ?_
            try simp only [Act.put, List.setIfInBounds_toArray, List.set_cons_zero, List.set_cons_succ]
            refine till_ready [14] (by kernel_rfl) (TillReady.cons 14 rfl (fun K hK => ?_) TillReady.nil)
            refine step_append_fresh (wd.drew.alloc (.cells (encItem (newItem x at_)).toArray 97)) rfl (.tmp 60) (.tmp 73) 68 rfl w0.heap.size 97 (.agg #[.string ⟨#[]⟩, .int .i64 0, .int .u64 0, .string ⟨#[]⟩, .int .u64 0]) 5 56 und97 info97 rfl (by decide) (.slice q k c) k ((L.take k).flatMap encItem) (by rfl) ((show wd.drew.ownsRow w0.heap.size 97 5 (.slice q k c) k ((L.take k).flatMap encItem) from HOD.out).alloc _) ⟨wd.heap.size, 0, none⟩ 1 1 (encItem (newItem x at_)) (by rfl) rfl (cell_new wd.drew (encItem (newItem x at_)) 97) (by simp [encItem, Value.oneCell']) (by unfold maxLen; omega) (by omega) (by have := HBR.out.size; have := HDS.out; simp; omega) ?_
            intro v5 w5 ho5 hg5 hT5
            have hbb := below_own (HBR.out.trans ((HZD.out.drew.alloc HZD.out.size (.cells (encItem (newItem x at_)).toArray 97)).mono HBR.out.size)) hg5 HO.out
            obtain ⟨a5, c5, rfl⟩ := owns_slice ho5
            have hS5 := HSK.out w5 hbb
            have g5 := HA.out.st.keep hbb hpl
            have z0 := g5.cell (j := 0) rfl
            have zf := g5.free 0
            have zl := g5.lt
            have hrow5 := HROW.out.keep hbb
            have HO5 := Lib.hid ho5
            have HB5 := Lib.hid hbb
            have HROW5 := Lib.hid hrow5
            clear ho5 hg5 hT5 hbb g5 hrow5 hS
            have hS := hS5
            clear hS5
            refine (Hid.out hK) _ _ (fun _ => hS) ?_
            try simp only [Act.put, List.setIfInBounds_toArray, List.set_cons_zero, List.set_cons_succ]
            refine till_ready [15] (by kernel_rfl) (TillReady.cons 15 rfl (fun K hK => ?_) TillReady.nil)
            go_simp
            refine (Hid.out hK) _ _ (fun h => absurd rfl h) ?_
            refine till_done (by kernel_rfl) ?_
            refine NoPanic.normal ?_
            have hkc : ¬ (k1 = k) := by obtain ⟨a', cap', hv, h1, -⟩ := HROW.out; cases hv; have := HKL.out; omega
            go_wp2_with (first
              | (at_builtin
                 refine wpList_append_fresh w5 rfl (.tmp 75) (.tmp 81) 68 rfl w0.heap.size 97 (.agg #[.string ⟨#[]⟩, .int .i64 0, .int .u64 0, .string ⟨#[]⟩, .int .u64 0]) 5 56 und97 info97 rfl (by decide) (.slice a5 (k + 1) c5) (k + 1) ((L.take k).flatMap encItem ++ encItem (newItem x at_)) (by rfl) HO5.out ⟨b2, o2 + k * 5, none⟩ (L.length - k) (k1 - k) ((L.drop k).flatMap encItem) (by rfl) (by rw [flat_len, List.length_drop]) (HROW5.out.behind k) (flat_one _) (by have := HKL.out; unfold maxLen; omega) (by have := HKL.out; omega) HB5.out.size ?_
                 intro v6 w6 ho6 hg6 hT6
                 have hb6 := below_own HB5.out hg6 HO5.out
                 rw [show k + 1 + (L.length - k) = L.length + 1 by have := HKL.out; omega] at ho6
                 obtain ⟨a6, c6, rfl⟩ := owns_slice ho6
                 have g6 := HA.out.st.keep hb6 hpl
                 have y0 := g6.cell (j := 0) rfl
                 have yf := g6.free 0
                 have yl := g6.lt
                 have HFIN := Lib.hid (HA.out.push HPB.out HBW.out HX.out hk HN.out hb6 ho6)
                 clear ho6 hg6 hT6 hb6 g6)
              | fail)
            go_tidy
            exact ⟨⟨j + 1, _, _, HLT.out, rfl, HFIN.out⟩, by have := HLT.out; simp [intOf]; omega⟩
        · obtain rfl : k = L.length := by omega
          have hkn : decide ((L.length : Int) < (L.length : Int)) = false := by simp
          go_wp2_with fail
          go_quiet (fail)
          go_wp2_with fail
          obtain ⟨wd, hwd⟩ : ∃ wd : World, wd = wr.drewN nq := ⟨_, rfl⟩
          rw [← hwd]
          have hzd : Below wr.heap.size wr wd := by rw [hwd]; exact below_drewN (Below.refl _ _) _
          have HDS := Lib.hid (show wd.heap.size = wr.heap.size by rw [hwd]; rfl)
          have hod : wd.ownsRow w0.heap.size 97 5 (.slice q L.length c) L.length ((L.take L.length).flatMap encItem) := by rw [hwd]; exact HO.out
          have HOD := Lib.hid hod
          have HZD := Lib.hid hzd
          clear hod hzd hwd
          go_upto_region 13 with fail
          refine wp_region_noPanic ?_
          refine till_start (ApS b o j x) 15 (by kernel_rfl) ?_
          have hS := HSK2.out wd.drew HZD.out.drew
          show AnyTill _ _ _ _ _ _ 16 (Array.replicate 16 false) _ _
          refine till_take 0 (v := ?_) rfl (by kernel_rfl) (fun _ _ _ h => h) (Or.inl ⟨by rfl, ?_⟩) hS ?_
          rotate_left
          focus (intro w' hSw; obtain ⟨hs0, hs1, hs2, hs3⟩ := hSw; go_simp; try (with_reducible rfl))
          try simp only [Act.put, List.setIfInBounds_toArray, List.set_cons_zero, List.set_cons_succ]
          refine till_take 1 (v := ?_) rfl (by kernel_rfl) (fun _ _ _ h => h) (Or.inl ⟨by rfl, ?_⟩) hS ?_
          rotate_left
          focus (intro w' hSw; obtain ⟨hs0, hs1, hs2, hs3⟩ := hSw; go_simp; try (with_reducible rfl))
          try simp only [Act.put, List.setIfInBounds_toArray, List.set_cons_zero, List.set_cons_succ]
          refine till_take 2 (v := ?_) rfl (by kernel_rfl) (fun _ _ _ h => h) (Or.inl ⟨by rfl, ?_⟩) hS ?_
          rotate_left
          focus (intro w' hSw; obtain ⟨hs0, hs1, hs2, hs3⟩ := hSw; go_simp; try (with_reducible rfl))
          try simp only [Act.put, List.setIfInBounds_toArray, List.set_cons_zero, List.set_cons_succ]
          refine till_take 3 (v := ?_) rfl (by kernel_rfl) (fun _ _ _ h => h) (Or.inl ⟨by rfl, ?_⟩) hS ?_
          rotate_left
          focus (intro w' hSw; obtain ⟨hs0, hs1, hs2, hs3⟩ := hSw; go_simp; try (with_reducible rfl))
          try simp only [Act.put, List.setIfInBounds_toArray, List.set_cons_zero, List.set_cons_succ]
          refine till_take 4 (v := ?_) rfl (by kernel_rfl) (fun _ _ _ h => h) (Or.inl ⟨by rfl, ?_⟩) hS ?_
          rotate_left
          focus (intro w' hSw; obtain ⟨hs0, hs1, hs2, hs3⟩ := hSw; go_simp; try (with_reducible rfl))
          try simp only [Act.put, List.setIfInBounds_toArray, List.set_cons_zero, List.set_cons_succ]
          refine till_take 5 (v := ?_) rfl (by kernel_rfl) (fun _ _ _ h => h) (Or.inl ⟨by rfl, ?_⟩) hS ?_
          rotate_left
          focus (intro w' hSw; obtain ⟨hs0, hs1, hs2, hs3⟩ := hSw; go_simp; try (with_reducible rfl))
          try simp only [Act.put, List.setIfInBounds_toArray, List.set_cons_zero, List.set_cons_succ]
          refine till_take 6 (v := ?_) rfl (by kernel_rfl) (fun _ _ _ h => h) (Or.inl ⟨by rfl, ?_⟩) hS ?_
          rotate_left
          focus (intro w' hSw; obtain ⟨hs0, hs1, hs2, hs3⟩ := hSw; go_simp; try (with_reducible rfl))
          try simp only [Act.put, List.setIfInBounds_toArray, List.set_cons_zero, List.set_cons_succ]
          refine till_take 7 (v := ?_) rfl (by kernel_rfl) (fun _ _ _ h => h) (Or.inl ⟨by rfl, ?_⟩) hS ?_
          rotate_left
          focus (intro w' hSw; obtain ⟨hs0, hs1, hs2, hs3⟩ := hSw; go_simp; try (with_reducible rfl))
          try simp only [Act.put, List.setIfInBounds_toArray, List.set_cons_zero, List.set_cons_succ]
          refine till_take 8 (v := ?_) rfl (by kernel_rfl) (fun _ _ _ h => h) (Or.inl ⟨by rfl, ?_⟩) hS ?_
          rotate_left
          focus (intro w' hSw; obtain ⟨hs0, hs1, hs2, hs3⟩ := hSw; go_simp; try (with_reducible rfl))
          try simp only [Act.put, List.setIfInBounds_toArray, List.set_cons_zero, List.set_cons_succ]
          refine till_take 9 (v := ?_) rfl (by kernel_rfl) (fun _ _ _ h => h) (Or.inl ⟨by rfl, ?_⟩) hS ?_
          rotate_left
          focus (intro w' hSw; obtain ⟨hs0, hs1, hs2, hs3⟩ := hSw; go_simp; try (with_reducible rfl))
          try simp only [Act.put, List.setIfInBounds_toArray, List.set_cons_zero, List.set_cons_succ]
          refine till_take 10 (v := ?_) rfl (by kernel_rfl) (fun _ _ _ h => h) (Or.inl ⟨by rfl, ?_⟩) hS ?_
          rotate_left
          focus (intro w' hSw; obtain ⟨hs0, hs1, hs2, hs3⟩ := hSw; go_simp; try (with_reducible rfl))
          try simp only [Act.put, List.setIfInBounds_toArray, List.set_cons_zero, List.set_cons_succ]
          refine till_take 11 (v := ?_) rfl (by kernel_rfl) (fun _ _ _ h => h) (Or.inl ⟨by rfl, ?_⟩) hS ?_
          rotate_left
          focus (intro w' hSw; obtain ⟨hs0, hs1, hs2, hs3⟩ := hSw; go_simp; try (with_reducible rfl))
          try simp only [Act.put, List.setIfInBounds_toArray, List.set_cons_zero, List.set_cons_succ]
          refine till_take 12 (v := ?_) rfl (by kernel_rfl) (fun _ _ _ h => h) (Or.inl ⟨by rfl, ?_⟩) hS ?_
          rotate_left
          focus (intro w' hSw; obtain ⟨hs0, hs1, hs2, hs3⟩ := hSw; go_simp; try (with_reducible rfl))
          try simp only [Act.put, List.setIfInBounds_toArray, List.set_cons_zero, List.set_cons_succ]
          refine till_ready [13] (by kernel_rfl) (TillReady.cons 13 rfl (fun K hK => ?_) TillReady.nil)
          go_simp
          have hS := HSK2.out _ (HZD.out.drew.alloc HZD.out.size (.cells (encItem (newItem x at_)).toArray 97))
          refine (Hid.out hK) _ _ (fun _ => hS) ?_
          try simp only [Act.put, List.setIfInBounds_toArray, List.set_cons_zero, List.set_cons_succ]
          refine till_ready [14] (by kernel_rfl) (TillReady.cons 14 rfl (fun K hK => ?_) TillReady.nil)
          refine step_append_fresh (wd.drew.alloc (.cells (encItem (newItem x at_)).toArray 97)) rfl (.tmp 60) (.tmp 73) 68 rfl w0.heap.size 97 (.agg #[.string ⟨#[]⟩, .int .i64 0, .int .u64 0, .string ⟨#[]⟩, .int .u64 0]) 5 56 und97 info97 rfl (by decide) (.slice q L.length c) L.length ((L.take L.length).flatMap encItem) (by rfl) ((show wd.drew.ownsRow w0.heap.size 97 5 (.slice q L.length c) L.length ((L.take L.length).flatMap encItem) from HOD.out).alloc _) ⟨wd.heap.size, 0, none⟩ 1 1 (encItem (newItem x at_)) (by rfl) rfl (cell_new wd.drew (encItem (newItem x at_)) 97) (by simp [encItem, Value.oneCell']) (by unfold maxLen; omega) (by omega) (by have := HBR.out.size; have := HDS.out; simp; omega) ?_
          intro v5 w5 ho5 hg5 hT5
          have hbb := below_own (HBR.out.trans ((HZD.out.drew.alloc HZD.out.size (.cells (encItem (newItem x at_)).toArray 97)).mono HBR.out.size)) hg5 HO.out
          obtain ⟨a5, c5, rfl⟩ := owns_slice ho5
          have hS5 := HSK.out w5 hbb
          have g5 := HA.out.st.keep hbb hpl
          have z0 := g5.cell (j := 0) rfl
          have zf := g5.free 0
          have zl := g5.lt
          have hrow5 := HROW.out.keep hbb
          have HO5 := Lib.hid ho5
          have HB5 := Lib.hid hbb
          have HROW5 := Lib.hid hrow5
          clear ho5 hg5 hT5 hbb g5 hrow5 hS
          have hS := hS5
          clear hS5
          refine (Hid.out hK) _ _ (fun _ => hS) ?_
          try simp only [Act.put, List.setIfInBounds_toArray, List.set_cons_zero, List.set_cons_succ]
          refine till_ready [15] (by kernel_rfl) (TillReady.cons 15 rfl (fun K hK => ?_) TillReady.nil)
          go_simp
          refine (Hid.out hK) _ _ (fun h => absurd rfl h) ?_
          refine till_done (by kernel_rfl) ?_
          refine NoPanic.normal ?_
          obtain ⟨i97, hi97, -, -, -⟩ := info_parts info97
          have hcl : L.length ≤ k1 := by obtain ⟨a', cap', hv, h1, -⟩ := HROW.out; cases hv; exact h1
          have hc5 : L.length + 1 ≤ c5 := owns_cap HO5.out
          go_wp2_with (first
            | (at_builtin
               refine wpList_append_none w5 rfl (.tmp 75) (.tmp 81) 68 rfl 97 i97 und97 hi97 a5 (L.length + 1) c5 (by rfl) hc5 _ _ (by rfl) ?_)
            | fail)
          have hfin := HA.out.push (x := x) (v' := .slice a5 (L.length + 1) c5) HPB.out HBW.out HX.out hk HN.out HB5.out (by rw [List.drop_length]; simpa using HO5.out)
          have HFIN := Lib.hid hfin
          clear hfin
          go_tidy
          exact ⟨⟨j + 1, _, _, HLT.out, rfl, HFIN.out⟩, by have := HLT.out; simp [intOf]; omega⟩
    · obtain rfl : j = ws.length := by omega
      have g1 := hA.st
      have p1 := g1.cell (j := 1) rfl
      have pf := g1.free 1
      have pl := g1.lt
      have hfin : ApAt w p base at_ at_ low ws L0 L (.slice a1 L.length k1) ws.length (wr.setCell ⟨p, 1, none⟩ (.int .u64 at_)) := by
        refine ⟨g1.set 1 _, owns_set hA.row (by have := HPB.out; simp; omega) _, ?_, hA.len, hA.seen, hA.mem⟩
        refine ⟨hA.grown.os, hA.grown.tape, hA.grown.output, by simpa using hA.grown.size, fun i hi hne => ?_⟩
        rw [Below.heap_setCell _ _ _ i (fun e => hne (by rw [e])), hA.grown.block i hi hne]
      have HFIN := Lib.hid hfin
      clear hfin g1 hA
      go_wp2
      go_tidy
      exact HOUT.out _ _ _ HFIN.out
end Go.Proofs.Ytmdfilffoomckaa
