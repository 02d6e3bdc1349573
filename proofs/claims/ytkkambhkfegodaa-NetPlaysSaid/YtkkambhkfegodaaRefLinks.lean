/- The reference: Links. Conditions: each law's own. -/
import Derived.Test.YtkkambhkfegodaaRefMove
namespace Go.Proofs.Ytkkambhkfegodaa
open Go.ChangeShapes Go.WideShapes Go.ChangeAt Go.RowKit

theorem equal53 (a b : Key) (w : World) : (Op.equal 53 (.agg #[.int .i64 a.1, .int .i64 a.2]) (.agg #[.int .i64 b.1, .int .i64 b.2])).run Try.prog w = .ok (decide (a = b)) w := by
  have hS : Try.prog.underlying 53 = some (.struct (Try.prog.fieldsOf 53)) := by kernel_rfl
  have hp : Try.prog.stoodInHeld 53 = false := by kernel_rfl
  have h0 : Op.equal 53 (.agg #[.int .i64 a.1, .int .i64 a.2]) (.agg #[.int .i64 b.1, .int .i64 b.2]) = Op.equalIn (9999 + 1) 53 (.agg #[.int .i64 a.1, .int .i64 a.2]) (.agg #[.int .i64 b.1, .int .i64 b.2]) := rfl
  rw [h0, run_equalIn_agg w 9999 53 _ _ hS hp]
  simp only [Program.fieldsOf, Try.underlying53]
  go_simp
  obtain ⟨a1, a2⟩ := a
  obtain ⟨b1, b2⟩ := b
  by_cases h1 : a1 = b1 <;> by_cases h2 : a2 = b2 <;> simp [h1, h2]
theorem eql53 (a1 a2 b1 b2 : Int) (w : World) : (binOp .eql 53 (.agg #[.int .i64 a1, .int .i64 a2]) (.agg #[.int .i64 b1, .int .i64 b2])).run Try.prog w = .ok (.bool (decide ((a1, a2) = (b1, b2)))) w := by
  have := equal53 (a1, a2) (b1, b2) w
  simp only [binOp, Sem.run_bind, this, Result.andThen_ok]
  rfl
theorem info53 : (Try.prog.info? 53).map (fun i => (i.zero, i.size, i.bytes)) = some (some (.agg #[.int .i64 0, .int .i64 0]), 2, 16) := by kernel_rfl
theorem underlying50 : Try.prog.underlying 50 = some (.slice 53) := by kernel_rfl
section
variable {w0 w : World} {y : Nat} {lv : Value} {L : List Pkt}
def keysOf (L : List Pkt) : List Key := L.map (·.1)
def LRel (L : List Pkt) (w : World) (out i : Value) (wr : World) : Prop :=
  ∃ (j : Nat) (ks : List Key), j ≤ L.length ∧ i = .int .i64 j ∧ wr.ownsRow w.heap.size 53 2 out ks.length (ks.flatMap encLL) ∧ (ks = [] → out = .slice none 0 0) ∧ ks.Pairwise ltL ∧ (∀ k, k ∈ ks ↔ k ∈ keysOf (L.take j)) ∧ ks.length ≤ j ∧ Below w.heap.size w wr
def InRel (ks : List Key) (x : Key) (W1 : World) (kv : Value) (wr : World) : Prop :=
  ∃ m n : Nat, m ≤ ks.length ∧ kv = .int .i64 m ∧ (∀ (i : Nat) (q : Key), i < m → ks[i]? = some q → ltL q x) ∧ wr = W1.drewN n
def RLinksEnd (L : List Pkt) (w : World) (e : Ending) (w' : World) : Prop :=
  ∃ (v : Value) (ks : List Key), e = .returned v ∧ RowOf encLL 2 w' v ks ∧ ks.Pairwise ltL ∧ (∀ k, k ∈ ks ↔ k ∈ keysOf L) ∧ ks.length ≤ L.length ∧ Below w.heap.size w w'
theorem flatL_len (ks : List Key) : (ks.flatMap encLL).length = ks.length * 2 := by
  induction ks with
  | nil => rfl
  | cons p L ih => simp only [List.flatMap_cons, List.length_append, List.length_cons, ih]; simp only [encLL, List.length_cons, List.length_nil]; omega
theorem encLL_one (ks : List Key) : ∀ u ∈ ks.flatMap encLL, u.oneCell' = true := by
  intro u hu
  obtain ⟨p, hp, hup⟩ := List.mem_flatMap.1 hu
  simp only [encLL, List.mem_cons, List.not_mem_nil, or_false] at hup
  rcases hup with rfl | rfl <;> rfl
theorem flatL_take {w : World} {g cap base : Nat} {ks : List Key} (hrow : w.ownsRow base 53 2 (.slice (some ⟨g, 0, none⟩) ks.length cap) ks.length (ks.flatMap encLL)) (i : Nat) : ∀ j u, ((ks.take i).flatMap encLL)[j]? = some u → w.cell? ((⟨g, 0, none⟩ : Addr).add j) = some u := by
  intro j u hj
  refine hrow.cells rfl j u ?_
  conv => lhs; rw [← List.take_append_drop i ks]
  rw [List.flatMap_append, List.getElem?_append_left (List.getElem?_eq_some_iff.1 hj).1]
  exact hj
theorem flatL_drop {w : World} {g cap base : Nat} {ks : List Key} (hrow : w.ownsRow base 53 2 (.slice (some ⟨g, 0, none⟩) ks.length cap) ks.length (ks.flatMap encLL)) (i : Nat) (hi : i ≤ ks.length) : ∀ j u, ((ks.drop i).flatMap encLL)[j]? = some u → w.cell? ((⟨g, i * 2, none⟩ : Addr).add j) = some u := by
  intro j u hj
  have := hrow.cells rfl (i * 2 + j) u (by
    conv => lhs; rw [← List.take_append_drop i ks]
    rw [List.flatMap_append, List.getElem?_append_right (by rw [flatL_len, List.length_take]; have : min i ks.length = i := by omega
                                                            rw [this]; omega)]
    rw [flatL_len, List.length_take, show min i ks.length = i by omega, show i * 2 + j - i * 2 = j by omega]
    exact hj)
  rw [Go.WideShapes.add_plain] at this ⊢
  rw [show i * 2 + j = 0 + (i * 2 + j) by omega]
  exact this
/-- The list with x put in at m. -/
theorem put_sorted {ks : List Key} {x : Key} {m : Nat} (hs : ks.Pairwise ltL) (hb : ∀ (i : Nat) (q : Key), i < m → ks[i]? = some q → ltL q x) (ha : ∀ q, ks[m]? = some q → ltL x q) : (ks.take m ++ [x] ++ ks.drop m).Pairwise ltL := by
  have hd : ∀ q ∈ ks.drop m, ltL x q := by
    intro q hq
    obtain ⟨i, hi⟩ := List.getElem?_of_mem hq
    rw [List.getElem?_drop] at hi
    cases i with
    | zero => exact ha q hi
    | succ i =>
      have hlt : m < ks.length := by have := (List.getElem?_eq_some_iff.1 hi).1; omega
      have h1 := ha _ (List.getElem?_eq_getElem hlt)
      have h2 := List.pairwise_iff_getElem.1 hs m (m + (i + 1)) hlt (List.getElem?_eq_some_iff.1 hi).1 (by omega)
      rw [(List.getElem?_eq_some_iff.1 hi).2] at h2
      unfold ltL at *
      omega
  have ht : ∀ q ∈ ks.take m, ltL q x := by
    intro q hq
    obtain ⟨i, hi⟩ := List.getElem?_of_mem hq
    rw [List.getElem?_take] at hi
    split at hi
    · rename_i h; exact hb i q h hi
    · cases hi
  rw [List.append_assoc, List.pairwise_append]
  refine ⟨hs.sublist (List.take_sublist _ _), ?_, fun a ha2 b hb2 => ?_⟩
  · rw [List.singleton_append, List.pairwise_cons]
    exact ⟨hd, hs.sublist (List.drop_sublist _ _)⟩
  · rcases List.mem_append.1 hb2 with h | h
    · simp at h; subst h; exact ht a ha2
    · have h1 := ht a ha2
      have h2 := hd b h
      unfold ltL at *
      omega
theorem put_mem {ks : List Key} {x k : Key} {m : Nat} : k ∈ ks.take m ++ [x] ++ ks.drop m ↔ k ∈ ks ∨ k = x := by
  conv => rhs; rw [← List.take_append_drop m ks]
  simp only [List.mem_append, List.mem_singleton]
  constructor
  · rintro ((h | h) | h) <;> simp [h]
  · rintro ((h | h) | h) <;> simp [h]
set_option maxHeartbeats 8000000 in
set_option maxRecDepth 100000 in
theorem c18 (h : RefAt w0 w y lv L) (hl : L.length ≤ 10000) : Calls Try.prog 18 #[.pointer (some ⟨y, 0, none⟩)] w (RLinksEnd L w) := by
  refine gen (S := RLinksEnd L w) fun R hR => ?_
  have hrow := h.rowOf
  have hy := h.box.lt
  obtain ⟨av, cap, rfl, -⟩ := id hrow
  have H := Lib.hid h
  have HR := Lib.hid hrow
  clear h hrow
  go_enter Try.func18, Try.ntmps18
  go_wp2
  go_loopw [3, 4] (fun out i wr => LRel L w out i wr) (fun _ i _ => L.length - (intOf i).toNat)
  case atStart => exact ⟨0, [], by omega, rfl, World.ownsRow_nil _ _ _ _, fun _ => rfl, List.Pairwise.nil, by simp [keysOf], by simp, Below.refl _ _⟩
  case round =>
    obtain ⟨j, ks, hj, rfl, hT, hnil, hpw, hmem, hkl, hbl⟩ := hrel
    have hc : wr.cell? ⟨y, 0, none⟩ = some (.slice av L.length cap) := by rw [hbl.cell (p := ⟨y, 0, none⟩) hy]; exact H.out.box.cell (j := 0) rfl
    have hyr : y < wr.heap.size := Nat.lt_of_lt_of_le hy hbl.size
    rcases Nat.lt_or_ge j L.length with hlt | hge
    · obtain ⟨b, o, ⟨⟨p1, p2⟩, pv, pb⟩, rfl, hbl0, hp, hc0, hc1, hc2⟩ := HR.out.pkt hlt
      simp only at hc0 hc1 hc2
      rw [← hbl.cell (p := ⟨b, o + j * 3, none⟩) hbl0] at hc0
      rw [← hbl.cell (p := ⟨b, o + j * 3 + 1, none⟩) hbl0] at hc1
      have hbr : b < wr.heap.size := Nat.lt_of_lt_of_le hbl0 hbl.size
      have hjl : (j : Int) < (L.length : Int) := by omega
      have htk : keysOf (L.take (j + 1)) = keysOf (L.take j) ++ [(p1, p2)] := by rw [← take_push hp]; simp [keysOf]
      have HTK := Lib.hid htk
      have HT := Lib.hid hT
      have HNIL := Lib.hid hnil
      have HPW := Lib.hid hpw
      have HMEM := Lib.hid hmem
      have HBL := Lib.hid hbl
      clear htk hp hT hnil hpw hmem hbl hc2
      obtain ⟨oa, oc, rfl⟩ := owns_slice HT.out
      go_wp2
      go_region_held3 (fun w' => w'.cell? ⟨y, 0, none⟩ = some (.slice (some ⟨b, o, none⟩) L.length cap) ∧ w'.cell? ⟨b, o + j * 3, none⟩ = some (.int .i64 p1) ∧ w'.cell? ⟨b, o + j * 3 + 1, none⟩ = some (.int .i64 p2))
        (first | go_keep | fail) (fail)
      go_wp2
      generalize hW : World.drew _ = W1
      have hKW : VarAt W1 wr.heap.size 53 [.int .i64 p1, .int .i64 p2] := by rw [← hW]; exact VarAt.new wr 53 [.int .i64 p1, .int .i64 p2]
      have hbW : Below wr.heap.size wr W1 := by rw [← hW]; exact ((Below.refl _ _).alloc (Nat.le_refl _) _).drew
      have hTW : W1.ownsRow w.heap.size 53 2 (.slice oa ks.length oc) ks.length (ks.flatMap encLL) := ownsRow_below HT.out hbW
      have hx1 := hKW.cell (j := 0) (u := .int .i64 p1) rfl
      have hx2 := hKW.cell (j := 1) (u := .int .i64 p2) rfl
      have hKl := hKW.lt
      have HKW := Lib.hid hKW
      have HTW := Lib.hid hTW
      have HBW := Lib.hid (HBL.out.trans (hbW.mono HBL.out.size))
      clear hW hKW hbW hTW hc hc0 hc1 hyr hbr
      rcases Nat.eq_zero_or_pos ks.length with hk0 | hk0
      · obtain rfl : ks = [] := List.eq_nil_of_length_eq_zero hk0
        have := HNIL.out rfl
        simp only [Value.slice.injEq] at this
        obtain ⟨rfl, -, rfl⟩ := this
        simp only [List.length_nil]
        go_loopw [6] (fun kv wr2 => ∃ n : Nat, kv = .int .i64 0 ∧ wr2 = W1.drewN n) (fun _ _ => 0)
        case atStart => exact ⟨0, rfl, rfl⟩
        case round =>
          obtain ⟨nd, rfl, rfl⟩ := hrel
          go_wp2
          go_quiet (fail)
          go_wp2
          go_quiet (fail)
          generalize hW2 : World.drewN _ _ = W2
          have hb12 : Below W1.heap.size W1 W2 := by rw [← hW2]; exact below_drewN (below_drewN (below_drewN (Below.refl _ W1) _) _) _
          have hKW2 : VarAt W2 wr.heap.size 53 [.int .i64 p1, .int .i64 p2] := HKW.out.keep hb12 HKW.out.lt
          have hx1' := hKW2.cell (j := 0) (u := .int .i64 p1) rfl
          have hx2' := hKW2.cell (j := 1) (u := .int .i64 p2) rfl
          have HBW2 := Lib.hid (HBW.out.trans (hb12.mono HBW.out.size))
          clear hW2 hb12 hKW2 hx1 hx2
          go_wp2_with (first
            | (at_builtin
               refine wpList_append_fresh (W2.alloc (.cells #[.int .i64 p1, .int .i64 p2] 53)) rfl (.tmp 87) (.tmp 89) 50 rfl w.heap.size 53 (.agg #[.int .i64 0, .int .i64 0]) 2 16 underlying50 info53 rfl (by decide) (.slice none 0 0) 0 [] (by rfl) (World.ownsRow_nil _ _ _ _) ⟨W2.heap.size, 0, none⟩ 1 1 [.int .i64 p1, .int .i64 p2] (by rfl) rfl (cell_new W2 [.int .i64 p1, .int .i64 p2] 53) (by simp [Value.oneCell']) (by unfold maxLen; omega) (by omega) (by have := HBW2.out.size; simp; omega) ?_
               intro v4 w4 hT4 hg4 ho4
               rw [Nat.zero_add, List.nil_append] at hT4
               obtain ⟨g4, c4, rfl, hc4⟩ : ∃ g4 c4, v4 = .slice (some ⟨g4, 0, none⟩) 1 c4 ∧ 1 ≤ c4 := by
                 obtain ⟨_, ⟨_, h2⟩ | ⟨g4, c4, cur, rfl, _, _, h2, _⟩⟩ := hT4
                 · omega
                 · exact ⟨g4, c4, rfl, h2⟩
               have hc4' : ¬ (c4 = 0) := by omega
               have HT4 := Lib.hid hT4
               have HG4 := Lib.hid hg4
               clear hT4 hg4 ho4)
            | fail)
          go_tidy
          refine ⟨⟨j + 1, [(p1, p2)], by omega, rfl, HT4.out, by simp, List.pairwise_singleton _ _, fun k => ?_, by simp, (HBW2.out.alloc HBW2.out.size _).grown HG4.out (by have := HBW2.out.size; simp; omega) (fun k hk => by cases hk)⟩, by simp [intOf]; omega⟩
          rw [HTK.out, List.mem_append, ← HMEM.out]
          simp
      · obtain ⟨g, rfl, hgl, hcap2⟩ : ∃ g, oa = some ⟨g, 0, none⟩ ∧ g < W1.heap.size ∧ ks.length ≤ oc := by
          obtain ⟨_, ⟨h1, h2⟩ | ⟨g, c, cur, hv, _, hg, hc, _⟩⟩ := HTW.out
          · omega
          · cases hv; exact ⟨g, rfl, (Array.getElem?_eq_some_iff.1 hg).1, hc⟩
        have hksl : ks.length ≤ 10000 := by omega
        have hcell : ∀ (m : Nat) (q : Key), ks[m]? = some q → W1.cell? ⟨g, m * 2, none⟩ = some (.int .i64 q.1) ∧ W1.cell? ⟨g, m * 2 + 1, none⟩ = some (.int .i64 q.2) := fun m q hq => by
          have h1 := HTW.out.cells rfl (m * 2) _ (flatMap_at (enc := encLL) (k := 2) (fun _ => rfl) ks m 0 q _ hq rfl)
          have h2 := HTW.out.cells rfl (m * 2 + 1) _ (flatMap_at (enc := encLL) (k := 2) (fun _ => rfl) ks m 1 q _ hq rfl)
          rw [Go.WideShapes.add_plain, Nat.zero_add] at h1 h2
          exact ⟨h1, h2⟩
        have HCELL := Lib.hid hcell
        clear hcell
        go_loopw [6] (fun kv wr2 => InRel ks (p1, p2) W1 kv wr2) (fun kv _ => ks.length - (intOf kv).toNat)
        case atStart => exact ⟨0, 0, by omega, rfl, fun i q hi => by omega, rfl⟩
        case round =>
          obtain ⟨m, nd, hm, rfl, hbef, rfl⟩ := hrel
          have HBEF := Lib.hid hbef
          clear hbef
          rcases Nat.lt_or_ge m ks.length with hml | hmg
          · obtain ⟨⟨q1, q2⟩, hq⟩ : ∃ q, ks[m]? = some q := ⟨ks[m], List.getElem?_eq_getElem _⟩
            obtain ⟨hq1, hq2⟩ := HCELL.out m _ hq
            simp only at hq1 hq2
            have hmI : (m : Int) < (ks.length : Int) := by omega
            have HQ := Lib.hid hq
            clear hq
            have next : ltL (q1, q2) (p1, p2) → ∀ n, InRel ks (p1, p2) W1 (.int .i64 ((m : Int) + 1)) (W1.drewN n) := fun hlt n => ⟨m + 1, n, by omega, rfl, fun i q hi hq => by
              rcases Nat.lt_or_ge i m with h5 | h5
              · exact HBEF.out i q h5 hq
              · obtain rfl : i = m := by omega
                rw [HQ.out] at hq; injection hq with hq; rw [← hq]; exact hlt, rfl⟩
            have HNX := Lib.hid next
            clear next
            by_cases hA : q1 < p1
            · have dA : decide (q1 < p1) = true := decide_eq_true hA
              go_wp2
              go_quiet (fail)
              go_wp2
              go_tidy
              exact ⟨HNX.out (.inl hA) _, by simp [intOf]; omega⟩
            · have dA : decide (q1 < p1) = false := decide_eq_false hA
              have hbm : (m : Int) ≤ (oc : Int) := by omega
              have hbm2 : m ≤ oc := by omega
              have hbm3 : ¬ (oc = m) := by omega
              have hbm4 : (m : Int) ≤ (ks.length : Int) := by omega
              by_cases hB : p1 = q1
              · subst hB
                by_cases hC : q2 < p2
                · have dC : decide (q2 < p2) = true := decide_eq_true hC
                  go_wp2
                  go_quiet (fail)
                  go_wp2
                  go_tidy
                  exact ⟨HNX.out (.inr ⟨rfl, hC⟩) _, by simp [intOf]; omega⟩
                · have dC : decide (q2 < p2) = false := decide_eq_false hC
                  by_cases hD : p2 = q2
                  · subst hD
                    have heql : ∀ w', (binOp .eql 53 (.agg #[.int .i64 p1, .int .i64 p2]) (.agg #[.int .i64 p1, .int .i64 p2])).run Try.prog w' = .ok (.bool true) w' := fun w' => by rw [eql53, decide_eq_true rfl]
                    go_wp2
                    go_quiet (fail)
                    go_wp2
                    go_quiet (fail)
                    generalize hW2 : World.drewN _ _ = W2
                    have HB2 := Lib.hid (show Below w.heap.size w W2 by rw [← hW2]; exact below_drewN (below_drewN (below_drewN HBW.out _) _) _)
                    have HT2 := Lib.hid (show W2.ownsRow w.heap.size 53 2 (.slice (some ⟨g, 0, none⟩) ks.length oc) ks.length (ks.flatMap encLL) by rw [← hW2]; exact ownsRow_below HTW.out (below_drewN (below_drewN (below_drewN (Below.refl _ W1) _) _) _))
                    clear hW2 hx1 hx2
                    go_wp2
                    go_tidy
                    refine ⟨⟨j + 1, ks, by omega, rfl, HT2.out, HNIL.out, HPW.out, fun k => ?_, by omega, HB2.out⟩, by simp [intOf]; omega⟩
                    rw [HTK.out, List.mem_append, ← HMEM.out]
                    constructor
                    · exact .inl
                    · rintro (h5 | h5)
                      · exact h5
                      · simp at h5; subst h5; exact List.mem_of_getElem? HQ.out
                  · have heql : ∀ w', (binOp .eql 53 (.agg #[.int .i64 p1, .int .i64 q2]) (.agg #[.int .i64 p1, .int .i64 p2])).run Try.prog w' = .ok (.bool false) w' := fun w' => by rw [eql53, decide_eq_false (by intro e; injection e with _ e2; exact hD e2.symm)]
                    have haft : ∀ q, ks[m]? = some q → ltL (p1, p2) q := fun q hq => by
                      rw [HQ.out] at hq; injection hq with hq; rw [← hq]; exact .inr ⟨rfl, by simp only; omega⟩
                    have HAFT := Lib.hid haft
                    clear haft
                    go_wp2
                    go_quiet (fail)
                    go_wp2
                    go_quiet (fail)
                    generalize hW2 : World.drewN _ _ = W2
                    have hb12 : Below W1.heap.size W1 W2 := by rw [← hW2]; exact below_drewN (below_drewN (below_drewN (Below.refl _ W1) _) _) _
                    have hKW2 : VarAt W2 wr.heap.size 53 [.int .i64 p1, .int .i64 p2] := HKW.out.keep hb12 HKW.out.lt
                    have hx1' := hKW2.cell (j := 0) (u := .int .i64 p1) rfl
                    have hx2' := hKW2.cell (j := 1) (u := .int .i64 p2) rfl
                    have HK2 := Lib.hid hKW2
                    have HTW2 := Lib.hid (ownsRow_below HTW.out hb12)
                    have HBW2 := Lib.hid (HBW.out.trans (hb12.mono HBW.out.size))
                    have hgl2 : g < W2.heap.size := Nat.lt_of_lt_of_le hgl hb12.size
                    clear hW2 hb12 hKW2 hx1 hx2
                    go_wp2_with (first
                      | (at_builtin
                         refine wpList_append_fresh W2 rfl (.tmp 82) (.tmp 85) 50 rfl W2.heap.size 53 (.agg #[.int .i64 0, .int .i64 0]) 2 16 underlying50 info53 rfl (by decide) (.slice none 0 0) 0 [] (by rfl) (World.ownsRow_nil _ _ _ _) ⟨g, 0, none⟩ m oc ((ks.take m).flatMap encLL) (by rfl) (by rw [flatL_len, List.length_take, show min m ks.length = m by omega]) (flatL_take HTW2.out m) (encLL_one _) (by unfold maxLen; omega) (by omega) (Nat.le_refl _) ?_
                         intro v3 w3 hT3 hg3 ho3
                         rw [Nat.zero_add, List.nil_append] at hT3
                         obtain ⟨a3, c3, rfl⟩ := owns_slice hT3
                         have hb3 : Below W2.heap.size W2 w3 := (Below.refl _ W2).grown hg3 (Nat.le_refl _) (fun k hk => by cases hk)
                         have hK3 := HK2.out.keep hb3 HK2.out.lt
                         have hx13 := hK3.cell (j := 0) (u := .int .i64 p1) rfl
                         have hx23 := hK3.cell (j := 1) (u := .int .i64 p2) rfl
                         have HT3 := Lib.hid hT3
                         have HB3 := Lib.hid hb3
                         clear hT3 hg3 ho3 hb3 hK3)
                      | (at_builtin
                         refine wpList_append_fresh (w3.alloc (.cells #[.int .i64 p1, .int .i64 p2] 53)) rfl (.tmp 87) (.tmp 89) 50 rfl W2.heap.size 53 (.agg #[.int .i64 0, .int .i64 0]) 2 16 underlying50 info53 rfl (by decide) (.slice a3 m c3) m ((ks.take m).flatMap encLL) (by rfl) (HT3.out.alloc _) ⟨w3.heap.size, 0, none⟩ 1 1 [.int .i64 p1, .int .i64 p2] (by rfl) rfl (cell_new w3 [.int .i64 p1, .int .i64 p2] 53) (by simp [Value.oneCell']) (by unfold maxLen; omega) (by omega) (by have := HB3.out.size; simp; omega) ?_
                         intro v4 w4 hT4 hg4 ho4
                         obtain ⟨a4, c4, rfl⟩ := owns_slice hT4
                         have hb4 : Below W2.heap.size W2 w4 := (HB3.out.alloc HB3.out.size (.cells #[.int .i64 p1, .int .i64 p2] 53)).grown hg4 (by have := HB3.out.size; simp; omega) (fun k hk => (HT3.out.lt k hk).1)
                         have HT4 := Lib.hid hT4
                         have HB4 := Lib.hid hb4
                         clear hT4 hg4 ho4 hb4)
                      | (at_builtin
                         refine wpList_append_fresh w4 rfl (.tmp 91) (.tmp 94) 50 rfl W2.heap.size 53 (.agg #[.int .i64 0, .int .i64 0]) 2 16 underlying50 info53 rfl (by decide) (.slice a4 (m + 1) c4) (m + 1) ((ks.take m).flatMap encLL ++ [.int .i64 p1, .int .i64 p2]) (by rfl) HT4.out ⟨g, m * 2, none⟩ (ks.length - m) (oc - m) ((ks.drop m).flatMap encLL) (by rfl) (by rw [flatL_len, List.length_drop]) (fun j2 u2 hj2 => ?hnew) (by exact encLL_one _) (by unfold maxLen; omega) (by omega) HB4.out.size ?_
                         case hnew =>
                           have := flatL_drop HTW2.out m (by omega) j2 u2 hj2
                           rw [Go.WideShapes.add_plain] at this ⊢
                           rw [HB4.out.cell (p := ⟨g, m * 2 + j2, none⟩) hgl2]; exact this
                         intro v5 w5 hT5 hg5 ho5
                         obtain ⟨a5, c5, rfl⟩ := owns_slice hT5
                         have HT5 := Lib.hid hT5
                         have HG5 := Lib.hid hg5
                         clear hT5 hg5 ho5)
                      | fail)
                    go_tidy
                    have hE : (ks.take m ++ [(p1, p2)] ++ ks.drop m).flatMap encLL = (ks.take m).flatMap encLL ++ [.int .i64 p1, .int .i64 p2] ++ (ks.drop m).flatMap encLL := by
                      rw [List.flatMap_append, List.flatMap_append]; rfl
                    have hEl : (ks.take m ++ [(p1, p2)] ++ ks.drop m).length = m + 1 + (ks.length - m) := by
                      rw [List.length_append, List.length_append, List.length_take, List.length_drop, show min m ks.length = m by omega]; rfl
                    refine ⟨⟨j + 1, ks.take m ++ [(p1, p2)] ++ ks.drop m, by omega, rfl, ?_, by simp, put_sorted HPW.out HBEF.out HAFT.out, fun k => ?_, by omega, (HBW2.out.trans (HB4.out.mono HBW2.out.size)).grown HG5.out (by have := HBW2.out.size; have := HB4.out.size; omega) (fun k hk => by have := (HT4.out.lt k hk).1; have := HBW2.out.size; omega)⟩, by simp [intOf]; omega⟩
                    · rw [hE, hEl]; exact ownsRow_base HT5.out HBW2.out.size
                    · rw [put_mem, HMEM.out, HTK.out, List.mem_append]; simp
              · have heql : ∀ w', (binOp .eql 53 (.agg #[.int .i64 q1, .int .i64 q2]) (.agg #[.int .i64 p1, .int .i64 p2])).run Try.prog w' = .ok (.bool false) w' := fun w' => by rw [eql53, decide_eq_false (by intro e; injection e with e1 _; exact hB e1.symm)]
                have dB : decide (q1 = p1) = false := decide_eq_false (fun e => hB e.symm)
                have dB2 : (q1 == p1) = false := by simpa using fun e : q1 = p1 => hB e.symm
                have dB3 : ¬ (q1 = p1) := fun e => hB e.symm
                have haft : ∀ q, ks[m]? = some q → ltL (p1, p2) q := fun q hq => by
                  rw [HQ.out] at hq; injection hq with hq; rw [← hq]; exact .inl (by simp only; omega)
                have HAFT := Lib.hid haft
                clear haft
                go_wp2
                go_quiet (fail)
                go_wp2
                go_quiet (fail)
                generalize hW2 : World.drewN _ _ = W2
                have hb12 : Below W1.heap.size W1 W2 := by rw [← hW2]; exact below_drewN (below_drewN (below_drewN (Below.refl _ W1) _) _) _
                have hKW2 : VarAt W2 wr.heap.size 53 [.int .i64 p1, .int .i64 p2] := HKW.out.keep hb12 HKW.out.lt
                have hx1' := hKW2.cell (j := 0) (u := .int .i64 p1) rfl
                have hx2' := hKW2.cell (j := 1) (u := .int .i64 p2) rfl
                have HK2 := Lib.hid hKW2
                have HTW2 := Lib.hid (ownsRow_below HTW.out hb12)
                have HBW2 := Lib.hid (HBW.out.trans (hb12.mono HBW.out.size))
                have hgl2 : g < W2.heap.size := Nat.lt_of_lt_of_le hgl hb12.size
                clear hW2 hb12 hKW2 hx1 hx2
                go_wp2_with (first
                  | (at_builtin
                     refine wpList_append_fresh W2 rfl (.tmp 82) (.tmp 85) 50 rfl W2.heap.size 53 (.agg #[.int .i64 0, .int .i64 0]) 2 16 underlying50 info53 rfl (by decide) (.slice none 0 0) 0 [] (by rfl) (World.ownsRow_nil _ _ _ _) ⟨g, 0, none⟩ m oc ((ks.take m).flatMap encLL) (by rfl) (by rw [flatL_len, List.length_take, show min m ks.length = m by omega]) (flatL_take HTW2.out m) (encLL_one _) (by unfold maxLen; omega) (by omega) (Nat.le_refl _) ?_
                     intro v3 w3 hT3 hg3 ho3
                     rw [Nat.zero_add, List.nil_append] at hT3
                     obtain ⟨a3, c3, rfl⟩ := owns_slice hT3
                     have hb3 : Below W2.heap.size W2 w3 := (Below.refl _ W2).grown hg3 (Nat.le_refl _) (fun k hk => by cases hk)
                     have hK3 := HK2.out.keep hb3 HK2.out.lt
                     have hx13 := hK3.cell (j := 0) (u := .int .i64 p1) rfl
                     have hx23 := hK3.cell (j := 1) (u := .int .i64 p2) rfl
                     have HT3 := Lib.hid hT3
                     have HB3 := Lib.hid hb3
                     clear hT3 hg3 ho3 hb3 hK3)
                  | (at_builtin
                     refine wpList_append_fresh (w3.alloc (.cells #[.int .i64 p1, .int .i64 p2] 53)) rfl (.tmp 87) (.tmp 89) 50 rfl W2.heap.size 53 (.agg #[.int .i64 0, .int .i64 0]) 2 16 underlying50 info53 rfl (by decide) (.slice a3 m c3) m ((ks.take m).flatMap encLL) (by rfl) (HT3.out.alloc _) ⟨w3.heap.size, 0, none⟩ 1 1 [.int .i64 p1, .int .i64 p2] (by rfl) rfl (cell_new w3 [.int .i64 p1, .int .i64 p2] 53) (by simp [Value.oneCell']) (by unfold maxLen; omega) (by omega) (by have := HB3.out.size; simp; omega) ?_
                     intro v4 w4 hT4 hg4 ho4
                     obtain ⟨a4, c4, rfl⟩ := owns_slice hT4
                     have hb4 : Below W2.heap.size W2 w4 := (HB3.out.alloc HB3.out.size (.cells #[.int .i64 p1, .int .i64 p2] 53)).grown hg4 (by have := HB3.out.size; simp; omega) (fun k hk => (HT3.out.lt k hk).1)
                     have HT4 := Lib.hid hT4
                     have HB4 := Lib.hid hb4
                     clear hT4 hg4 ho4 hb4)
                  | (at_builtin
                     refine wpList_append_fresh w4 rfl (.tmp 91) (.tmp 94) 50 rfl W2.heap.size 53 (.agg #[.int .i64 0, .int .i64 0]) 2 16 underlying50 info53 rfl (by decide) (.slice a4 (m + 1) c4) (m + 1) ((ks.take m).flatMap encLL ++ [.int .i64 p1, .int .i64 p2]) (by rfl) HT4.out ⟨g, m * 2, none⟩ (ks.length - m) (oc - m) ((ks.drop m).flatMap encLL) (by rfl) (by rw [flatL_len, List.length_drop]) (fun j2 u2 hj2 => ?hnew) (by exact encLL_one _) (by unfold maxLen; omega) (by omega) HB4.out.size ?_
                     case hnew =>
                       have := flatL_drop HTW2.out m (by omega) j2 u2 hj2
                       rw [Go.WideShapes.add_plain] at this ⊢
                       rw [HB4.out.cell (p := ⟨g, m * 2 + j2, none⟩) hgl2]; exact this
                     intro v5 w5 hT5 hg5 ho5
                     obtain ⟨a5, c5, rfl⟩ := owns_slice hT5
                     have HT5 := Lib.hid hT5
                     have HG5 := Lib.hid hg5
                     clear hT5 hg5 ho5)
                  | fail)
                go_tidy
                have hE : (ks.take m ++ [(p1, p2)] ++ ks.drop m).flatMap encLL = (ks.take m).flatMap encLL ++ [.int .i64 p1, .int .i64 p2] ++ (ks.drop m).flatMap encLL := by
                  rw [List.flatMap_append, List.flatMap_append]; rfl
                have hEl : (ks.take m ++ [(p1, p2)] ++ ks.drop m).length = m + 1 + (ks.length - m) := by
                  rw [List.length_append, List.length_append, List.length_take, List.length_drop, show min m ks.length = m by omega]; rfl
                refine ⟨⟨j + 1, ks.take m ++ [(p1, p2)] ++ ks.drop m, by omega, rfl, ?_, by simp, put_sorted HPW.out HBEF.out HAFT.out, fun k => ?_, by omega, (HBW2.out.trans (HB4.out.mono HBW2.out.size)).grown HG5.out (by have := HBW2.out.size; have := HB4.out.size; omega) (fun k hk => by have := (HT4.out.lt k hk).1; have := HBW2.out.size; omega)⟩, by simp [intOf]; omega⟩
                · rw [hE, hEl]; exact ownsRow_base HT5.out HBW2.out.size
                · rw [put_mem, HMEM.out, HTK.out, List.mem_append]; simp
          · obtain rfl : m = ks.length := by omega
            have HAFT := Lib.hid (show ∀ q, ks[ks.length]? = some q → ltL (p1, p2) q from fun q hq => by simp at hq)
            by_cases hoc : oc = ks.length
            · subst hoc
              go_wp2
              go_quiet (fail)
              go_wp2
              go_quiet (fail)
              generalize hW2 : World.drewN _ _ = W2
              have hb12 : Below W1.heap.size W1 W2 := by rw [← hW2]; exact below_drewN (below_drewN (below_drewN (Below.refl _ W1) _) _) _
              have hKW2 : VarAt W2 wr.heap.size 53 [.int .i64 p1, .int .i64 p2] := HKW.out.keep hb12 HKW.out.lt
              have hx1' := hKW2.cell (j := 0) (u := .int .i64 p1) rfl
              have hx2' := hKW2.cell (j := 1) (u := .int .i64 p2) rfl
              have HK2 := Lib.hid hKW2
              have HTW2 := Lib.hid (ownsRow_below HTW.out hb12)
              have HBW2 := Lib.hid (HBW.out.trans (hb12.mono HBW.out.size))
              have hgl2 : g < W2.heap.size := Nat.lt_of_lt_of_le hgl hb12.size
              clear hW2 hb12 hKW2 hx1 hx2
              go_wp2_with (first
                | (at_builtin
                   refine wpList_append_fresh W2 rfl (.tmp 82) (.tmp 85) 50 rfl W2.heap.size 53 (.agg #[.int .i64 0, .int .i64 0]) 2 16 underlying50 info53 rfl (by decide) (.slice none 0 0) 0 [] (by rfl) (World.ownsRow_nil _ _ _ _) ⟨g, 0, none⟩ ks.length ks.length ((ks.take ks.length).flatMap encLL) (by rfl) (by rw [flatL_len, List.length_take, show min ks.length ks.length = ks.length by omega]) (flatL_take HTW2.out ks.length) (encLL_one _) (by unfold maxLen; omega) (by omega) (Nat.le_refl _) ?_
                   intro v3 w3 hT3 hg3 ho3
                   rw [Nat.zero_add, List.nil_append] at hT3
                   obtain ⟨a3, c3, rfl⟩ := owns_slice hT3
                   have hb3 : Below W2.heap.size W2 w3 := (Below.refl _ W2).grown hg3 (Nat.le_refl _) (fun k hk => by cases hk)
                   have hK3 := HK2.out.keep hb3 HK2.out.lt
                   have hx13 := hK3.cell (j := 0) (u := .int .i64 p1) rfl
                   have hx23 := hK3.cell (j := 1) (u := .int .i64 p2) rfl
                   have HT3 := Lib.hid hT3
                   have HB3 := Lib.hid hb3
                   clear hT3 hg3 ho3 hb3 hK3)
                | (at_builtin
                   refine wpList_append_fresh (w3.alloc (.cells #[.int .i64 p1, .int .i64 p2] 53)) rfl (.tmp 87) (.tmp 89) 50 rfl W2.heap.size 53 (.agg #[.int .i64 0, .int .i64 0]) 2 16 underlying50 info53 rfl (by decide) (.slice a3 ks.length c3) ks.length ((ks.take ks.length).flatMap encLL) (by rfl) (HT3.out.alloc _) ⟨w3.heap.size, 0, none⟩ 1 1 [.int .i64 p1, .int .i64 p2] (by rfl) rfl (cell_new w3 [.int .i64 p1, .int .i64 p2] 53) (by simp [Value.oneCell']) (by unfold maxLen; omega) (by omega) (by have := HB3.out.size; simp; omega) ?_
                   intro v4 w4 hT4 hg4 ho4
                   obtain ⟨a4, c4, rfl⟩ := owns_slice hT4
                   have hb4 : Below W2.heap.size W2 w4 := (HB3.out.alloc HB3.out.size (.cells #[.int .i64 p1, .int .i64 p2] 53)).grown hg4 (by have := HB3.out.size; simp; omega) (fun k hk => (HT3.out.lt k hk).1)
                   have HT4 := Lib.hid hT4
                   have HB4 := Lib.hid hb4
                   clear hT4 hg4 ho4 hb4)
                | (at_builtin
                   refine wpList_append_fresh w4 rfl (.tmp 91) (.tmp 94) 50 rfl W2.heap.size 53 (.agg #[.int .i64 0, .int .i64 0]) 2 16 underlying50 info53 rfl (by decide) (.slice a4 (ks.length + 1) c4) (ks.length + 1) ((ks.take ks.length).flatMap encLL ++ [.int .i64 p1, .int .i64 p2]) (by rfl) HT4.out ⟨g, 0, none⟩ 0 0 [] (by rfl) rfl (fun j2 u2 hj2 => ?hnew) (by simp) (by unfold maxLen; omega) (by omega) HB4.out.size ?_
                   case hnew => simp at hj2
                   intro v5 w5 hT5 hg5 ho5
                   obtain ⟨a5, c5, rfl⟩ := owns_slice hT5
                   have HT5 := Lib.hid hT5
                   have HG5 := Lib.hid hg5
                   clear hT5 hg5 ho5)
                | fail)
              go_tidy
              have hE : (ks.take ks.length ++ [(p1, p2)] ++ ks.drop ks.length).flatMap encLL = (ks.take ks.length).flatMap encLL ++ [.int .i64 p1, .int .i64 p2] ++ [] := by
                rw [List.flatMap_append, List.flatMap_append, List.drop_length]; rfl
              have hEl : (ks.take ks.length ++ [(p1, p2)] ++ ks.drop ks.length).length = ks.length + 1 + 0 := by
                rw [List.drop_length, List.take_length]; simp
              refine ⟨⟨j + 1, ks.take ks.length ++ [(p1, p2)] ++ ks.drop ks.length, by omega, rfl, ?_, by simp, put_sorted HPW.out HBEF.out HAFT.out, fun k => ?_, by omega, (HBW2.out.trans (HB4.out.mono HBW2.out.size)).grown HG5.out (by have := HBW2.out.size; have := HB4.out.size; omega) (fun k hk => by have := (HT4.out.lt k hk).1; have := HBW2.out.size; omega)⟩, by simp [intOf]; omega⟩
              · rw [hE, hEl]; exact ownsRow_base HT5.out HBW2.out.size
              · rw [put_mem, HMEM.out, HTK.out, List.mem_append]; simp
            · have hbm : (ks.length : Int) ≤ (oc : Int) := by omega
              have hoc2 : ¬ (ks.length = oc) := fun e => hoc e.symm
              go_wp2
              go_quiet (fail)
              go_wp2
              go_quiet (fail)
              generalize hW2 : World.drewN _ _ = W2
              have hb12 : Below W1.heap.size W1 W2 := by rw [← hW2]; exact below_drewN (below_drewN (below_drewN (Below.refl _ W1) _) _) _
              have hKW2 : VarAt W2 wr.heap.size 53 [.int .i64 p1, .int .i64 p2] := HKW.out.keep hb12 HKW.out.lt
              have hx1' := hKW2.cell (j := 0) (u := .int .i64 p1) rfl
              have hx2' := hKW2.cell (j := 1) (u := .int .i64 p2) rfl
              have HK2 := Lib.hid hKW2
              have HTW2 := Lib.hid (ownsRow_below HTW.out hb12)
              have HBW2 := Lib.hid (HBW.out.trans (hb12.mono HBW.out.size))
              have hgl2 : g < W2.heap.size := Nat.lt_of_lt_of_le hgl hb12.size
              clear hW2 hb12 hKW2 hx1 hx2
              go_wp2_with (first
                | (at_builtin
                   refine wpList_append_fresh W2 rfl (.tmp 82) (.tmp 85) 50 rfl W2.heap.size 53 (.agg #[.int .i64 0, .int .i64 0]) 2 16 underlying50 info53 rfl (by decide) (.slice none 0 0) 0 [] (by rfl) (World.ownsRow_nil _ _ _ _) ⟨g, 0, none⟩ ks.length oc ((ks.take ks.length).flatMap encLL) (by rfl) (by rw [flatL_len, List.length_take, show min ks.length ks.length = ks.length by omega]) (flatL_take HTW2.out ks.length) (encLL_one _) (by unfold maxLen; omega) (by omega) (Nat.le_refl _) ?_
                   intro v3 w3 hT3 hg3 ho3
                   rw [Nat.zero_add, List.nil_append] at hT3
                   obtain ⟨a3, c3, rfl⟩ := owns_slice hT3
                   have hb3 : Below W2.heap.size W2 w3 := (Below.refl _ W2).grown hg3 (Nat.le_refl _) (fun k hk => by cases hk)
                   have hK3 := HK2.out.keep hb3 HK2.out.lt
                   have hx13 := hK3.cell (j := 0) (u := .int .i64 p1) rfl
                   have hx23 := hK3.cell (j := 1) (u := .int .i64 p2) rfl
                   have HT3 := Lib.hid hT3
                   have HB3 := Lib.hid hb3
                   clear hT3 hg3 ho3 hb3 hK3)
                | (at_builtin
                   refine wpList_append_fresh (w3.alloc (.cells #[.int .i64 p1, .int .i64 p2] 53)) rfl (.tmp 87) (.tmp 89) 50 rfl W2.heap.size 53 (.agg #[.int .i64 0, .int .i64 0]) 2 16 underlying50 info53 rfl (by decide) (.slice a3 ks.length c3) ks.length ((ks.take ks.length).flatMap encLL) (by rfl) (HT3.out.alloc _) ⟨w3.heap.size, 0, none⟩ 1 1 [.int .i64 p1, .int .i64 p2] (by rfl) rfl (cell_new w3 [.int .i64 p1, .int .i64 p2] 53) (by simp [Value.oneCell']) (by unfold maxLen; omega) (by omega) (by have := HB3.out.size; simp; omega) ?_
                   intro v4 w4 hT4 hg4 ho4
                   obtain ⟨a4, c4, rfl⟩ := owns_slice hT4
                   have hb4 : Below W2.heap.size W2 w4 := (HB3.out.alloc HB3.out.size (.cells #[.int .i64 p1, .int .i64 p2] 53)).grown hg4 (by have := HB3.out.size; simp; omega) (fun k hk => (HT3.out.lt k hk).1)
                   have HT4 := Lib.hid hT4
                   have HB4 := Lib.hid hb4
                   clear hT4 hg4 ho4 hb4)
                | (at_builtin
                   refine wpList_append_fresh w4 rfl (.tmp 91) (.tmp 94) 50 rfl W2.heap.size 53 (.agg #[.int .i64 0, .int .i64 0]) 2 16 underlying50 info53 rfl (by decide) (.slice a4 (ks.length + 1) c4) (ks.length + 1) ((ks.take ks.length).flatMap encLL ++ [.int .i64 p1, .int .i64 p2]) (by rfl) HT4.out ⟨g, ks.length * 2, none⟩ 0 (oc - ks.length) [] (by rfl) rfl (fun j2 u2 hj2 => ?hnew) (by simp) (by unfold maxLen; omega) (by omega) HB4.out.size ?_
                   case hnew => simp at hj2
                   intro v5 w5 hT5 hg5 ho5
                   obtain ⟨a5, c5, rfl⟩ := owns_slice hT5
                   have HT5 := Lib.hid hT5
                   have HG5 := Lib.hid hg5
                   clear hT5 hg5 ho5)
                | fail)
              go_tidy
              have hE : (ks.take ks.length ++ [(p1, p2)] ++ ks.drop ks.length).flatMap encLL = (ks.take ks.length).flatMap encLL ++ [.int .i64 p1, .int .i64 p2] ++ [] := by
                rw [List.flatMap_append, List.flatMap_append, List.drop_length]; rfl
              have hEl : (ks.take ks.length ++ [(p1, p2)] ++ ks.drop ks.length).length = ks.length + 1 + 0 := by
                rw [List.drop_length, List.take_length]; simp
              refine ⟨⟨j + 1, ks.take ks.length ++ [(p1, p2)] ++ ks.drop ks.length, by omega, rfl, ?_, by simp, put_sorted HPW.out HBEF.out HAFT.out, fun k => ?_, by omega, (HBW2.out.trans (HB4.out.mono HBW2.out.size)).grown HG5.out (by have := HBW2.out.size; have := HB4.out.size; omega) (fun k hk => by have := (HT4.out.lt k hk).1; have := HBW2.out.size; omega)⟩, by simp [intOf]; omega⟩
              · rw [hE, hEl]; exact ownsRow_base HT5.out HBW2.out.size
              · rw [put_mem, HMEM.out, HTK.out, List.mem_append]; simp
    · obtain rfl : j = L.length := by omega
      rw [List.take_length] at hmem
      have hr := RowOf.of_owns (enc := encLL) (k := 2) (fun _ => rfl) hT rfl
      have HR2 := Lib.hid hr
      have HPW := Lib.hid hpw
      have HMEM := Lib.hid hmem
      have HBL := Lib.hid hbl
      clear hT hnil hpw hmem hbl hr
      go_wp2
      go_tidy
      exact ⟨_, ks, rfl, HR2.out, HPW.out, HMEM.out, hkl, HBL.out⟩
end
end Go.Proofs.Ytkkambhkfegodaa
