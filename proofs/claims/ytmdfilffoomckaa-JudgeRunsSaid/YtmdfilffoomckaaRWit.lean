/- The reference's witness. Conditions: each law's own. -/
import Derived.Test.YtmdfilffoomckaaCounts
import Derived.Test.YtmdfilffoomckaaHeld
import Derived.Deep.DeepCutAuto
import Derived.Deep.CutBlock
namespace Go.Proofs.Ytmdfilffoomckaa
open Go.ChangeShapes Go.WideShapes Go.ChangeAt Go.RowKit

theorem ownsRow_base {w : World} {b b2 : Nat} {e : TypeId} {size n : Nat} {v : Value} {xs : List Value} (h : w.ownsRow b e size v n xs) (hb : b2 ≤ b) : w.ownsRow b2 e size v n xs := by
  obtain ⟨h1, h2⟩ := h
  refine ⟨h1, h2.imp id ?_⟩
  rintro ⟨g, cap, cur, a, hb1, c⟩
  exact ⟨g, cap, cur, a, by omega, c⟩
theorem ownsRow_below {w w' : World} {b : Nat} {e : TypeId} {size n : Nat} {v : Value} {xs : List Value} (h : w.ownsRow b e size v n xs) (hb : Below w.heap.size w w') : w'.ownsRow b e size v n xs := by
  obtain ⟨h1, h2⟩ := h
  refine ⟨h1, h2.imp id ?_⟩
  rintro ⟨g, cap, cur, a, b1, c, d⟩
  exact ⟨g, cap, cur, a, b1, by rw [hb.block g (Array.getElem?_eq_some_iff.1 c).1]; exact c, d⟩
theorem owns_slice {w : World} {b : Nat} {e : TypeId} {size n : Nat} {v : Value} {xs : List Value} (h : w.ownsRow b e size v n xs) : ∃ a c, v = .slice a n c := by
  obtain ⟨_, ⟨rfl, rfl⟩ | ⟨g, cap, cur, rfl, _⟩⟩ := h
  · exact ⟨none, 0, rfl⟩
  · exact ⟨_, cap, rfl⟩
theorem info45 : (Try.prog.info? 45).map (fun i => (i.zero, i.size, i.bytes)) = some (some (.agg #[.int .i64 0, .int .i64 0, .slice none 0 0, .slice none 0 0, .bool false, .int .u64 0]), 6, 80) := by kernel_rfl
theorem underlying30 : Try.prog.underlying 30 = some (.slice 45) := by kernel_rfl
def RWitRel (w : World) (hv : List Value) (ds : List DoneD) (out i : Value) (wr : World) : Prop :=
  ∃ (j : Nat) (L : List DoneD), j ≤ ds.length ∧ i = .int .i64 j ∧ IsWit (ds.take j) L ∧ wr.ownsRow (w.heap.size + 1) 45 6 out L.length (L.flatMap encDone) ∧ (L = [] → out = .slice none 0 0) ∧ VarAt wr w.heap.size 34 hv ∧ Below w.heap.size w wr
theorem drop30 (g n oc m : Nat) (hm : m ≤ n) : ∃ q : Option Addr, (oc ≠ m → q = some ⟨g, m * 6, none⟩) ∧ ((∃ qa qo, q = some ⟨qa, qo, none⟩)) ∧ ∀ W, (Instr.sliceAt 30 (.slice (some ⟨g, 0, none⟩) n oc) (some (.int .i64 (m : Int))) none none).run Try.prog W = .ok (.slice q (n - m) (oc - m)) W := by
  refine ⟨if oc = m then some ⟨g, 0, none⟩ else some ⟨g, m * 6, none⟩, fun h => by rw [if_neg h], by split <;> exact ⟨_, _, rfl⟩, fun W => ?_⟩
  have he : Try.prog.underlying 30 = some (.slice (Try.prog.elem 30)) := by kernel_rfl
  have hz : (sizeOf (Try.prog.elem 30)).run Try.prog W = .ok 6 W := by kernel_rfl
  rw [run_sliceAt_slice W 30 _ _ _ _ he, run_slice_l W 30 _ _ _ he .i64 m (by omega) (by omega), hz]
  simp only [Result.andThen_ok, sliced, Int.toNat_natCast, Option.map_some, Go.WideShapes.add_plain, Nat.zero_add]
theorem flatD_len (ks : List DoneD) : (ks.flatMap encDone).length = ks.length * 6 := by
  induction ks with
  | nil => rfl
  | cons p L ih => simp only [List.flatMap_cons, List.length_append, List.length_cons, ih]; simp only [encDone, List.length_cons, List.length_nil]; omega
theorem encDone_one (ks : List DoneD) : ∀ u ∈ ks.flatMap encDone, u.oneCell' = true := by
  intro u hu
  obtain ⟨p, hp, hup⟩ := List.mem_flatMap.1 hu
  simp only [encDone, List.mem_cons, List.not_mem_nil, or_false] at hup
  rcases hup with rfl | rfl | rfl | rfl | rfl | rfl <;> rfl
theorem flatD_take {w : World} {g cap base e : Nat} {ks : List DoneD} (hrow : w.ownsRow base e 6 (.slice (some ⟨g, 0, none⟩) ks.length cap) ks.length (ks.flatMap encDone)) (i : Nat) : ∀ j u, ((ks.take i).flatMap encDone)[j]? = some u → w.cell? ((⟨g, 0, none⟩ : Addr).add j) = some u := by
  intro j u hj
  refine hrow.cells rfl j u ?_
  conv => lhs; rw [← List.take_append_drop i ks]
  rw [List.flatMap_append, List.getElem?_append_left (List.getElem?_eq_some_iff.1 hj).1]
  exact hj
theorem flatD_drop {w : World} {g cap base e : Nat} {ks : List DoneD} (hrow : w.ownsRow base e 6 (.slice (some ⟨g, 0, none⟩) ks.length cap) ks.length (ks.flatMap encDone)) (i : Nat) (hi : i ≤ ks.length) : ∀ j u, ((ks.drop i).flatMap encDone)[j]? = some u → w.cell? ((⟨g, i * 6, none⟩ : Addr).add j) = some u := by
  intro j u hj
  have := hrow.cells rfl (i * 6 + j) u (by
    conv => lhs; rw [← List.take_append_drop i ks]
    rw [List.flatMap_append, List.getElem?_append_right (by rw [flatD_len, List.length_take]; have : min i ks.length = i := by omega
                                                            rw [this]; omega)]
    rw [flatD_len, List.length_take, show min i ks.length = i by omega, show i * 6 + j - i * 6 = j by omega]
    exact hj)
  rw [Go.WideShapes.add_plain] at this ⊢
  rw [show i * 6 + j = 0 + (i * 6 + j) by omega]
  exact this
def InRel (L : List DoneD) (d : DoneD) (W1 : World) (kv : Value) (wr : World) : Prop :=
  ∃ m : Nat, m ≤ L.length ∧ kv = .int .i64 m ∧ (∀ (i : Nat) q, i < m → L[i]? = some q → lessD q d = true) ∧ Below W1.heap.size W1 wr
def CutAt (L : List DoneD) (d : DoneD) (kv : Value) : Prop := ∀ q, L[(intOf kv).toNat]? = some q → lessD q d = false
structure S6 (b : Nat) (d : DoneD) (g o : Nat) (q : DoneD) (w : World) : Prop where
  d0 : w.cell? ⟨b, 0, none⟩ = some (.int .i64 d.txn.id.s)
  d1 : w.cell? ⟨b, 1, none⟩ = some (.int .i64 d.txn.id.q)
  d5 : w.cell? ⟨b, 5, none⟩ = some (.int .u64 d.stamp)
  q0 : w.cell? ⟨g, o, none⟩ = some (.int .i64 q.txn.id.s)
  q1 : w.cell? ⟨g, o + 1, none⟩ = some (.int .i64 q.txn.id.q)
  q5 : w.cell? ⟨g, o + 5, none⟩ = some (.int .u64 q.stamp)
def RWitEnd (w : World) (ds : List DoneD) (e : Ending) (w' : World) : Prop :=
  ∃ v, e = .returned v ∧ RowOf encDone 6 w' v (wit ds) ∧ Below w.heap.size w w'
set_option maxHeartbeats 4000000 in
set_option maxRecDepth 100000 in
theorem c11 {w : World} {a : Option Addr} {cap : Nat} {ds : List DoneD} (sv nv : Value) (h : RowOf encDone 6 w (.slice a ds.length cap) ds) (hl : ds.length ≤ 1000) :
    Calls Try.prog 11 #[.agg #[.slice a ds.length cap, sv, nv]] w (RWitEnd w ds) := by
  refine gen (S := RWitEnd w ds) fun R hR => ?_
  have HD := Lib.hid h
  clear h
  go_enter Try.func11, Try.ntmps11
  go_wp2
  go_loopw [3, 4] (fun out i wr => RWitRel w [.slice a ds.length cap, sv, nv] ds out i wr) (fun _ i _ => ds.length - (intOf i).toNat)
  case atStart =>
    exact ⟨0, [], by omega, rfl, ⟨.nil, .nil⟩, World.ownsRow_nil _ _ _ _, fun _ => rfl, VarAt.new w 34 _, (Below.refl _ _).alloc (Nat.le_refl _) _⟩
  case round =>
    obtain ⟨j, L, hj, rfl, hw, hown, hnil, hbox, hb⟩ := hrel
    have hq0 := hbox.cell (j := 0) (u := .slice a ds.length cap) rfl
    have hq1 := hbox.cell (j := 1) (u := sv) rfl
    have hq2 := hbox.cell (j := 2) (u := nv) rfl
    have hbl := hbox.lt
    rcases Nat.lt_or_ge j ds.length with hlt | hge
    · obtain ⟨b, o, d, rfl, hbl0, hd, hc0, hc1, hc2, hc3, hc4, hc5⟩ := HD.out.doneAt hlt
      have h29 := fun W (hb : Below w.heap.size w W) => c29 (w := W) sv nv (HD.out.keep hb) j hd
      rw [← hb.cell (p := ⟨b, o + j * 6, none⟩) hbl0] at hc0
      rw [← hb.cell (p := ⟨b, o + j * 6 + 1, none⟩) hbl0] at hc1
      rw [← hb.cell (p := ⟨b, o + j * 6 + 2, none⟩) hbl0] at hc2
      rw [← hb.cell (p := ⟨b, o + j * 6 + 3, none⟩) hbl0] at hc3
      rw [← hb.cell (p := ⟨b, o + j * 6 + 4, none⟩) hbl0] at hc4
      rw [← hb.cell (p := ⟨b, o + j * 6 + 5, none⟩) hbl0] at hc5
      have hjl : (j : Int) < (ds.length : Int) := by omega
      have hcf := cnt_first hd
      have hbr : b < wr.heap.size := Nat.lt_of_lt_of_le hbl0 hb.size
      have HW := Lib.hid hw
      have HO := Lib.hid hown
      have HN := Lib.hid hnil
      have HX := Lib.hid hbox
      have HB := Lib.hid hb
      have HC := Lib.hid hcf
      have HDD := Lib.hid hd
      clear hw hown hnil hbox hb hcf hd
      obtain ⟨oa, oc, rfl⟩ := owns_slice HO.out
      cases hcb : cntB (ds.take j) d with
      | false =>
        rw [hcb] at h29 HC
        simp only [Bool.false_eq_true, if_false] at HC
        go_wp2_with fail
        refine (h29 _ (HB.out.alloc HB.out.size _)).mono ?_
        rintro e w1 ⟨rfl, hb1⟩
        have hb2 := (Below.refl wr.heap.size wr).alloc (Nat.le_refl _) (.cells (encDone d).toArray 45)
        have HB2 := Lib.hid (hb2.trans (hb1.mono (by simp)))
        clear hb1 hb2 h29
        go_wp2_with fail
        go_tidy
        refine ⟨⟨j + 1, L, by omega, rfl, ?_, ownsRow_below HO.out HB2.out, HN.out, HX.out.keep HB2.out HX.out.lt, HB.out.trans (HB2.out.mono HB.out.size)⟩, by simp [intOf]; omega⟩
        refine HW.out.of_first ?_
        rw [HC.out]
      | true =>
        rw [hcb] at h29 HC
        simp only [if_true] at HC
        go_wp2_with fail
        refine (h29 _ (HB.out.alloc HB.out.size _)).mono ?_
        rintro e w1 ⟨rfl, hb1⟩
        have HK := Lib.hid ((VarAt.new wr 45 (encDone d)).keep hb1 (by simp))
        have hb2 := (Below.refl wr.heap.size wr).alloc (Nat.le_refl _) (.cells (encDone d).toArray 45)
        have HB2 := Lib.hid (hb2.trans (hb1.mono (by simp)))
        clear hb1 hb2 h29
        go_upto_block 2 with fail
        have hO1 := ownsRow_below HO.out HB2.out
        have HO1 := Lib.hid hO1
        clear hO1 hc0 hc1 hc2 hc3 hc4 hc5
        go_cut [6] (fun k wx => InRel L d w1 k wx ∧ CutAt L d k)
        case first => as_aux_lemma =>
          go_wp2_with fail
          obtain ⟨wo, rfl⟩ : ∃ wo : World, wo = wr := ⟨_, rfl⟩
          go_loopw [6] (fun k wr => InRel L d w1 k wr) (fun k _ => L.length - (intOf k).toNat)
          case atStart => exact ⟨0, by omega, rfl, fun i q hi => by omega, Below.refl _ _⟩
          case round =>
            obtain ⟨m, hm, rfl, hbef, hbx⟩ := hrel
            have hKx := HK.out.keep hbx HK.out.lt
            have hd0 := hKx.cell (j := 0) (u := .int .i64 d.txn.id.s) rfl
            have hd1 := hKx.cell (j := 1) (u := .int .i64 d.txn.id.q) rfl
            have hd5 := hKx.cell (j := 5) (u := .int .u64 d.stamp) rfl
            have HBF := Lib.hid hbef
            have HBX := Lib.hid hbx
            clear hbef hKx
            rcases Nat.lt_or_ge m L.length with hml | hmg
            · obtain ⟨g, rfl, hgl⟩ : ∃ g, oa = some ⟨g, 0, none⟩ ∧ g < w1.heap.size := by
                obtain ⟨_, ⟨h1, h2⟩ | ⟨g, c, cur, hv, _, hg, _⟩⟩ := HO1.out
                · omega
                · cases hv; exact ⟨g, rfl, (Array.getElem?_eq_some_iff.1 hg).1⟩
              obtain ⟨q, hq⟩ : ∃ q, L[m]? = some q := ⟨L[m], List.getElem?_eq_getElem _⟩
              have hcell : ∀ (k : Nat) u, (encDone q)[k]? = some u → wr.cell? ⟨g, m * 6 + k, none⟩ = some u := fun k u hk => by
                have h1 := HO1.out.cells rfl (m * 6 + k) _ (flatMap_at (enc := encDone) (k := 6) (fun _ => rfl) L m k q u hq hk)
                rw [Go.WideShapes.add_plain, Nat.zero_add] at h1
                rw [hbx.cell (p := ⟨g, m * 6 + k, none⟩) hgl]; exact h1
              have hg0 := hcell 0 _ rfl
              have hg1 := hcell 1 _ rfl
              have hg5 := hcell 5 _ rfl
              rw [Nat.add_zero] at hg0
              have hmI : (m : Int) < (L.length : Int) := by omega
              have hLL : L.length ≤ 1000 := by have := HW.out.len; rw [List.length_take] at this; omega
              have next : lessD q d = true → ∀ W, Below w1.heap.size w1 W → InRel L d w1 (.int .i64 ((m : Int) + 1)) W := fun hlt W hbW => ⟨m + 1, by omega, rfl, fun i y hi hy => by
                rcases Nat.lt_or_ge i m with h5 | h5
                · exact HBF.out i y h5 hy
                · obtain rfl : i = m := by omega
                  rw [hq] at hy; injection hy with hy; rw [← hy]; exact hlt, hbW⟩
              have stay : lessD q d = false → ∀ W, Below w1.heap.size w1 W → InRel L d w1 (.int .i64 (m : Int)) W ∧ CutAt L d (.int .i64 (m : Int)) := fun hlt W hbW => ⟨⟨m, hm, rfl, HBF.out, hbW⟩, fun y hy => by
                simp only [intOf, Int.toNat_natCast] at hy
                rw [hq] at hy; injection hy with hy; rw [← hy]; exact hlt⟩
              have HNX := Lib.hid next
              have HSY := Lib.hid stay
              have hleD : lessD q d = (decide (q.stamp < d.stamp) || (q.stamp == d.stamp && lessId q.txn.id d.txn.id)) := rfl
              have HLD := Lib.hid hleD
              clear next stay hcell hq hbx hleD
              by_cases hA : q.stamp < d.stamp
              · have dA : decide (q.stamp < d.stamp) = true := decide_eq_true hA
                go_wp2
                go_quiet (fail)
                go_wp2
                go_tidy
                exact ⟨HNX.out (by rw [HLD.out, dA]; rfl) _ (below_drewN HBX.out _), by simp [intOf]; omega⟩
              · have dA : decide (q.stamp < d.stamp) = false := decide_eq_false hA
                by_cases hE : q.stamp = d.stamp
                · have dE : (q.stamp == d.stamp) = true := by simpa using hE
                  have HE := Lib.hid hE
                  clear hE
                  as_aux_lemma =>
                  go_wp2
                  refine wp_region_noPanic ?_
                  refine till_start (S6 wo.heap.size d g (m * 6) q) 35 (by kernel_rfl) ?_
                  have hS := (show S6 wo.heap.size d g (m * 6) q (World.drew _) from ⟨hd0, hd1, hd5, hg0, hg1, hg5⟩)
                  show AnyTill _ _ _ _ _ _ 36 (Array.replicate 36 false) _ _
                  refine till_take 0 (v := ?_) rfl (by kernel_rfl) (fun _ _ _ h => h) (Or.inl ⟨by rfl, ?_⟩) hS ?_
                  rotate_left
                  focus (intro w' hSw; obtain ⟨hs0, hs1, hs5, ht0, ht1, ht5⟩ := hSw; go_simp; try (with_reducible rfl))
                  try simp only [Act.put, List.setIfInBounds_toArray, List.set_cons_zero, List.set_cons_succ]
                  refine till_take 1 (v := ?_) rfl (by kernel_rfl) (fun _ _ _ h => h) (Or.inl ⟨by rfl, ?_⟩) hS ?_
                  rotate_left
                  focus (intro w' hSw; obtain ⟨hs0, hs1, hs5, ht0, ht1, ht5⟩ := hSw; go_simp; try (with_reducible rfl))
                  try simp only [Act.put, List.setIfInBounds_toArray, List.set_cons_zero, List.set_cons_succ]
                  refine till_take 2 (v := ?_) rfl (by kernel_rfl) (fun _ _ _ h => h) (Or.inl ⟨by rfl, ?_⟩) hS ?_
                  rotate_left
                  focus (intro w' hSw; obtain ⟨hs0, hs1, hs5, ht0, ht1, ht5⟩ := hSw; go_simp; try (with_reducible rfl))
                  try simp only [Act.put, List.setIfInBounds_toArray, List.set_cons_zero, List.set_cons_succ]
                  refine till_take 3 (v := ?_) rfl (by kernel_rfl) (fun _ _ _ h => h) (Or.inl ⟨by rfl, ?_⟩) hS ?_
                  rotate_left
                  focus (intro w' hSw; obtain ⟨hs0, hs1, hs5, ht0, ht1, ht5⟩ := hSw; go_simp; try (with_reducible rfl))
                  try simp only [Act.put, List.setIfInBounds_toArray, List.set_cons_zero, List.set_cons_succ]
                  refine till_take 4 (v := ?_) rfl (by kernel_rfl) (fun _ _ _ h => h) (Or.inl ⟨by rfl, ?_⟩) hS ?_
                  rotate_left
                  focus (intro w' hSw; obtain ⟨hs0, hs1, hs5, ht0, ht1, ht5⟩ := hSw; go_simp; try (with_reducible rfl))
                  try simp only [Act.put, List.setIfInBounds_toArray, List.set_cons_zero, List.set_cons_succ]
                  refine till_take 5 (v := ?_) rfl (by kernel_rfl) (fun _ _ _ h => h) (Or.inl ⟨by rfl, ?_⟩) hS ?_
                  rotate_left
                  focus (intro w' hSw; obtain ⟨hs0, hs1, hs5, ht0, ht1, ht5⟩ := hSw; go_simp; try (with_reducible rfl))
                  try simp only [Act.put, List.setIfInBounds_toArray, List.set_cons_zero, List.set_cons_succ]
                  refine till_take 6 (v := ?_) rfl (by kernel_rfl) (fun _ _ _ h => h) (Or.inl ⟨by rfl, ?_⟩) hS ?_
                  rotate_left
                  focus (intro w' hSw; obtain ⟨hs0, hs1, hs5, ht0, ht1, ht5⟩ := hSw; go_simp; try (with_reducible rfl))
                  try simp only [Act.put, List.setIfInBounds_toArray, List.set_cons_zero, List.set_cons_succ]
                  refine till_take 7 (v := ?_) rfl (by kernel_rfl) (fun _ _ _ h => h) (Or.inl ⟨by rfl, ?_⟩) hS ?_
                  rotate_left
                  focus (intro w' hSw; obtain ⟨hs0, hs1, hs5, ht0, ht1, ht5⟩ := hSw; go_simp; try (with_reducible rfl))
                  try simp only [Act.put, List.setIfInBounds_toArray, List.set_cons_zero, List.set_cons_succ]
                  refine till_take 8 (v := ?_) rfl (by kernel_rfl) (fun _ _ _ h => h) (Or.inl ⟨by rfl, ?_⟩) hS ?_
                  rotate_left
                  focus (intro w' hSw; obtain ⟨hs0, hs1, hs5, ht0, ht1, ht5⟩ := hSw; go_simp; try (with_reducible rfl))
                  try simp only [Act.put, List.setIfInBounds_toArray, List.set_cons_zero, List.set_cons_succ]
                  refine till_take 9 (v := ?_) rfl (by kernel_rfl) (fun _ _ _ h => h) (Or.inl ⟨by rfl, ?_⟩) hS ?_
                  rotate_left
                  focus (intro w' hSw; obtain ⟨hs0, hs1, hs5, ht0, ht1, ht5⟩ := hSw; go_simp; try (with_reducible rfl))
                  try simp only [Act.put, List.setIfInBounds_toArray, List.set_cons_zero, List.set_cons_succ]
                  refine till_take 10 (v := ?_) rfl (by kernel_rfl) (fun _ _ _ h => h) (Or.inl ⟨by rfl, ?_⟩) hS ?_
                  rotate_left
                  focus (intro w' hSw; obtain ⟨hs0, hs1, hs5, ht0, ht1, ht5⟩ := hSw; go_simp; try (with_reducible rfl))
                  try simp only [Act.put, List.setIfInBounds_toArray, List.set_cons_zero, List.set_cons_succ]
                  refine till_take 11 (v := ?_) rfl (by kernel_rfl) (fun _ _ _ h => h) (Or.inl ⟨by rfl, ?_⟩) hS ?_
                  rotate_left
                  focus (intro w' hSw; obtain ⟨hs0, hs1, hs5, ht0, ht1, ht5⟩ := hSw; go_simp; try (with_reducible rfl))
                  try simp only [Act.put, List.setIfInBounds_toArray, List.set_cons_zero, List.set_cons_succ]
                  refine till_take 12 (v := ?_) rfl (by kernel_rfl) (fun _ _ _ h => h) (Or.inl ⟨by rfl, ?_⟩) hS ?_
                  rotate_left
                  focus (intro w' hSw; obtain ⟨hs0, hs1, hs5, ht0, ht1, ht5⟩ := hSw; go_simp; try (with_reducible rfl))
                  try simp only [Act.put, List.setIfInBounds_toArray, List.set_cons_zero, List.set_cons_succ]
                  refine till_take 13 (v := ?_) rfl (by kernel_rfl) (fun _ _ _ h => h) (Or.inl ⟨by rfl, ?_⟩) hS ?_
                  rotate_left
                  focus (intro w' hSw; obtain ⟨hs0, hs1, hs5, ht0, ht1, ht5⟩ := hSw; go_simp; try (with_reducible rfl))
                  try simp only [Act.put, List.setIfInBounds_toArray, List.set_cons_zero, List.set_cons_succ]
                  refine till_take 14 (v := ?_) rfl (by kernel_rfl) (fun _ _ _ h => h) (Or.inl ⟨by rfl, ?_⟩) hS ?_
                  rotate_left
                  focus (intro w' hSw; obtain ⟨hs0, hs1, hs5, ht0, ht1, ht5⟩ := hSw; go_simp; try (with_reducible rfl))
                  try simp only [Act.put, List.setIfInBounds_toArray, List.set_cons_zero, List.set_cons_succ]
                  refine till_take 15 (v := ?_) rfl (by kernel_rfl) (fun _ _ _ h => h) (Or.inl ⟨by rfl, ?_⟩) hS ?_
                  rotate_left
                  focus (intro w' hSw; obtain ⟨hs0, hs1, hs5, ht0, ht1, ht5⟩ := hSw; go_simp; try (with_reducible rfl))
                  try simp only [Act.put, List.setIfInBounds_toArray, List.set_cons_zero, List.set_cons_succ]
                  refine till_take 16 (v := ?_) rfl (by kernel_rfl) (fun _ _ _ h => h) (Or.inl ⟨by rfl, ?_⟩) hS ?_
                  rotate_left
                  focus (intro w' hSw; obtain ⟨hs0, hs1, hs5, ht0, ht1, ht5⟩ := hSw; go_simp; try (with_reducible rfl))
                  try simp only [Act.put, List.setIfInBounds_toArray, List.set_cons_zero, List.set_cons_succ]
                  refine till_take 17 (v := ?_) rfl (by kernel_rfl) (fun _ _ _ h => h) (Or.inl ⟨by rfl, ?_⟩) hS ?_
                  rotate_left
                  focus (intro w' hSw; obtain ⟨hs0, hs1, hs5, ht0, ht1, ht5⟩ := hSw; go_simp; try (with_reducible rfl))
                  try simp only [Act.put, List.setIfInBounds_toArray, List.set_cons_zero, List.set_cons_succ]
                  refine till_take 18 (v := ?_) rfl (by kernel_rfl) (fun _ _ _ h => h) (Or.inl ⟨by rfl, ?_⟩) hS ?_
                  rotate_left
                  focus (intro w' hSw; obtain ⟨hs0, hs1, hs5, ht0, ht1, ht5⟩ := hSw; go_simp; try (with_reducible rfl))
                  try simp only [Act.put, List.setIfInBounds_toArray, List.set_cons_zero, List.set_cons_succ]
                  refine till_take 19 (v := ?_) rfl (by kernel_rfl) (fun _ _ _ h => h) (Or.inl ⟨by rfl, ?_⟩) hS ?_
                  rotate_left
                  focus (intro w' hSw; obtain ⟨hs0, hs1, hs5, ht0, ht1, ht5⟩ := hSw; go_simp; try (with_reducible rfl))
                  try simp only [Act.put, List.setIfInBounds_toArray, List.set_cons_zero, List.set_cons_succ]
                  refine till_take 20 (v := ?_) rfl (by kernel_rfl) (fun _ _ _ h => h) (Or.inl ⟨by rfl, ?_⟩) hS ?_
                  rotate_left
                  focus (intro w' hSw; obtain ⟨hs0, hs1, hs5, ht0, ht1, ht5⟩ := hSw; go_simp; try (with_reducible rfl))
                  try simp only [Act.put, List.setIfInBounds_toArray, List.set_cons_zero, List.set_cons_succ]
                  refine till_take 21 (v := ?_) rfl (by kernel_rfl) (fun _ _ _ h => h) (Or.inl ⟨by rfl, ?_⟩) hS ?_
                  rotate_left
                  focus (intro w' hSw; obtain ⟨hs0, hs1, hs5, ht0, ht1, ht5⟩ := hSw; go_simp; try (with_reducible rfl))
                  try simp only [Act.put, List.setIfInBounds_toArray, List.set_cons_zero, List.set_cons_succ]
                  refine till_take 22 (v := ?_) rfl (by kernel_rfl) (fun _ _ _ h => h) (Or.inl ⟨by rfl, ?_⟩) hS ?_
                  rotate_left
                  focus (intro w' hSw; obtain ⟨hs0, hs1, hs5, ht0, ht1, ht5⟩ := hSw; go_simp; try (with_reducible rfl))
                  try simp only [Act.put, List.setIfInBounds_toArray, List.set_cons_zero, List.set_cons_succ]
                  refine till_take 23 (v := ?_) rfl (by kernel_rfl) (fun _ _ _ h => h) (Or.inl ⟨by rfl, ?_⟩) hS ?_
                  rotate_left
                  focus (intro w' hSw; obtain ⟨hs0, hs1, hs5, ht0, ht1, ht5⟩ := hSw; go_simp; try (with_reducible rfl))
                  try simp only [Act.put, List.setIfInBounds_toArray, List.set_cons_zero, List.set_cons_succ]
                  refine till_take 24 (v := ?_) rfl (by kernel_rfl) (fun _ _ _ h => h) (Or.inl ⟨by rfl, ?_⟩) hS ?_
                  rotate_left
                  focus (intro w' hSw; obtain ⟨hs0, hs1, hs5, ht0, ht1, ht5⟩ := hSw; go_simp; try (with_reducible rfl))
                  try simp only [Act.put, List.setIfInBounds_toArray, List.set_cons_zero, List.set_cons_succ]
                  refine till_take 25 (v := ?_) rfl (by kernel_rfl) (fun _ _ _ h => h) (Or.inl ⟨by rfl, ?_⟩) hS ?_
                  rotate_left
                  focus (intro w' hSw; obtain ⟨hs0, hs1, hs5, ht0, ht1, ht5⟩ := hSw; go_simp; try (with_reducible rfl))
                  try simp only [Act.put, List.setIfInBounds_toArray, List.set_cons_zero, List.set_cons_succ]
                  refine till_take 26 (v := ?_) rfl (by kernel_rfl) (fun _ _ _ h => h) (Or.inl ⟨by rfl, ?_⟩) hS ?_
                  rotate_left
                  focus (intro w' hSw; obtain ⟨hs0, hs1, hs5, ht0, ht1, ht5⟩ := hSw; go_simp; try (with_reducible rfl))
                  try simp only [Act.put, List.setIfInBounds_toArray, List.set_cons_zero, List.set_cons_succ]
                  refine till_take 27 (v := ?_) rfl (by kernel_rfl) (fun _ _ _ h => h) (Or.inl ⟨by rfl, ?_⟩) hS ?_
                  rotate_left
                  focus (intro w' hSw; obtain ⟨hs0, hs1, hs5, ht0, ht1, ht5⟩ := hSw; go_simp; try (with_reducible rfl))
                  try simp only [Act.put, List.setIfInBounds_toArray, List.set_cons_zero, List.set_cons_succ]
                  refine till_take 28 (v := ?_) rfl (by kernel_rfl) (fun _ _ _ h => h) (Or.inl ⟨by rfl, ?_⟩) hS ?_
                  rotate_left
                  focus (intro w' hSw; obtain ⟨hs0, hs1, hs5, ht0, ht1, ht5⟩ := hSw; go_simp; try (with_reducible rfl))
                  try simp only [Act.put, List.setIfInBounds_toArray, List.set_cons_zero, List.set_cons_succ]
                  refine till_take 29 (v := ?_) rfl (by kernel_rfl) (fun _ _ _ h => h) (Or.inl ⟨by rfl, ?_⟩) hS ?_
                  rotate_left
                  focus (intro w' hSw; obtain ⟨hs0, hs1, hs5, ht0, ht1, ht5⟩ := hSw; go_simp; try (with_reducible rfl))
                  try simp only [Act.put, List.setIfInBounds_toArray, List.set_cons_zero, List.set_cons_succ]
                  refine till_take 30 (v := ?_) rfl (by kernel_rfl) (fun _ _ _ h => h) (Or.inl ⟨by rfl, ?_⟩) hS ?_
                  rotate_left
                  focus (intro w' hSw; obtain ⟨hs0, hs1, hs5, ht0, ht1, ht5⟩ := hSw; go_simp; try (with_reducible rfl))
                  try simp only [Act.put, List.setIfInBounds_toArray, List.set_cons_zero, List.set_cons_succ]
                  refine till_take 31 (v := ?_) rfl (by kernel_rfl) (fun _ _ _ h => h) (Or.inl ⟨by rfl, ?_⟩) hS ?_
                  rotate_left
                  focus (intro w' hSw; obtain ⟨hs0, hs1, hs5, ht0, ht1, ht5⟩ := hSw; go_simp; try (with_reducible rfl))
                  try simp only [Act.put, List.setIfInBounds_toArray, List.set_cons_zero, List.set_cons_succ]
                  refine till_ready [32] (by kernel_rfl) (TillReady.cons 32 rfl (fun K hK => ?_) TillReady.nil)
                  go_simp
                  refine (c30 q.txn.id d.txn.id _).mono ?_
                  rintro e w5 ⟨rfl, hb5⟩
                  have HB5 := Lib.hid (HBX.out.drew.trans (hb5.mono HBX.out.size))
                  have HK5 := Lib.hid (HK.out.keep HB5.out HK.out.lt)
                  have hK5 := HK5.out
                  have hgl5 : g < wr.heap.size := Nat.lt_of_lt_of_le hgl HBX.out.size
                  have hS2 : S6 wo.heap.size d g (m * 6) q w5 := ⟨hK5.cell (j := 0) rfl, hK5.cell (j := 1) rfl, hK5.cell (j := 5) rfl, by rw [hb5.cell (p := ⟨g, m * 6, none⟩) hgl5]; exact hg0, by rw [hb5.cell (p := ⟨g, m * 6 + 1, none⟩) hgl5]; exact hg1, by rw [hb5.cell (p := ⟨g, m * 6 + 5, none⟩) hgl5]; exact hg5⟩
                  clear hb5 hK5 hS
                  have hS := hS2
                  clear hS2
                  refine (Hid.out hK) _ _ (fun _ => hS) ?_
                  try simp only [Act.put, List.setIfInBounds_toArray, List.set_cons_zero, List.set_cons_succ]
                  cases hL : lessId q.txn.id d.txn.id with
                  | true =>
                    refine till_take 33 (v := ?_) rfl (by kernel_rfl) (fun _ _ _ h => h) (Or.inl ⟨by rfl, ?_⟩) hS ?_
                    rotate_left
                    focus (intro w' hSw; obtain ⟨hs0, hs1, hs5, ht0, ht1, ht5⟩ := hSw; go_simp; try (with_reducible rfl))
                    try simp only [Act.put, List.setIfInBounds_toArray, List.set_cons_zero, List.set_cons_succ]
                    refine till_take 34 (v := ?_) rfl (by kernel_rfl) (fun _ _ _ h => h) (Or.inl ⟨by rfl, ?_⟩) hS ?_
                    rotate_left
                    focus (intro w' hSw; obtain ⟨hs0, hs1, hs5, ht0, ht1, ht5⟩ := hSw; go_simp; try (with_reducible rfl))
                    try simp only [Act.put, List.setIfInBounds_toArray, List.set_cons_zero, List.set_cons_succ]
                    refine till_ready [35] (by kernel_rfl) (TillReady.cons 35 rfl (fun K hK => ?_) TillReady.nil)
                    go_simp
                    refine (Hid.out hK) _ _ (fun h => absurd rfl h) ?_
                    refine till_done (by kernel_rfl) ?_
                    refine NoPanic.normal ?_
                    go_wp2
                    go_tidy
                    exact ⟨HNX.out (by rw [HLD.out, dE, hL]; simp) _ HB5.out, by simp [intOf]; omega⟩
                  | false =>
                    refine till_take 33 (v := ?_) rfl (by kernel_rfl) (fun _ _ _ h => h) (Or.inl ⟨by rfl, ?_⟩) hS ?_
                    rotate_left
                    focus (intro w' hSw; obtain ⟨hs0, hs1, hs5, ht0, ht1, ht5⟩ := hSw; go_simp; try (with_reducible rfl))
                    try simp only [Act.put, List.setIfInBounds_toArray, List.set_cons_zero, List.set_cons_succ]
                    refine till_take 34 (v := ?_) rfl (by kernel_rfl) (fun _ _ _ h => h) (Or.inl ⟨by rfl, ?_⟩) hS ?_
                    rotate_left
                    focus (intro w' hSw; obtain ⟨hs0, hs1, hs5, ht0, ht1, ht5⟩ := hSw; go_simp; try (with_reducible rfl))
                    try simp only [Act.put, List.setIfInBounds_toArray, List.set_cons_zero, List.set_cons_succ]
                    refine till_ready [35] (by kernel_rfl) (TillReady.cons 35 rfl (fun K hK => ?_) TillReady.nil)
                    go_simp
                    refine (Hid.out hK) _ _ (fun h => absurd rfl h) ?_
                    refine till_done (by kernel_rfl) ?_
                    refine NoPanic.normal ?_
                    go_wp2
                    go_meet
                    exact HSY.out (by rw [HLD.out, dA, dE, hL]; rfl) _ HB5.out
                · have dE : (q.stamp == d.stamp) = false := by simpa using hE
                  go_wp2
                  go_quiet (fail)
                  go_wp2
                  go_meet
                  exact HSY.out (by rw [HLD.out, dA, dE]; rfl) _ (below_drewN HBX.out _)
            · obtain rfl : m = L.length := by omega
              go_wp2
              go_quiet (fail)
              go_wp2
              go_meet
              exact ⟨⟨L.length, by omega, rfl, HBF.out, below_drewN HBX.out _⟩, fun y hy => by
                simp only [intOf, Int.toNat_natCast] at hy
                rw [List.getElem?_eq_none (by omega)] at hy; cases hy⟩
        case rest =>
          obtain ⟨⟨m, hm, rfl, hbef, hbx⟩, haft⟩ := hcut
          have hLL : L.length ≤ 1000 := by have := HW.out.len; rw [List.length_take] at this; omega
          have htk : ds.take (j + 1) = ds.take j ++ [d] := by rw [List.take_add_one, HDD.out]; rfl
          have hput := IsWit.put (m := m) (d := d) HW.out (by rw [← htk]; exact HC.out) hbef (fun q hq => haft q (by simp only [intOf, Int.toNat_natCast]; exact hq))
          rw [← htk] at hput
          have HP := Lib.hid hput
          have hKx := HK.out.keep hbx HK.out.lt
          have hd0 := hKx.cell (j := 0) (u := .int .i64 d.txn.id.s) rfl
          have hd1 := hKx.cell (j := 1) (u := .int .i64 d.txn.id.q) rfl
          have hd2 := hKx.cell (j := 2) (u := d.txn.rv) rfl
          have hd3 := hKx.cell (j := 3) (u := d.txn.wv) rfl
          have hd4 := hKx.cell (j := 4) (u := .bool d.yes) rfl
          have hd5 := hKx.cell (j := 5) (u := .int .u64 d.stamp) rfl
          have HKX := Lib.hid hKx
          have HBT := Lib.hid (HB2.out.trans (hbx.mono HB2.out.size))
          have HOX := Lib.hid (ownsRow_below HO1.out hbx)
          clear hbef haft htk hput hKx hbx
          rcases Nat.eq_zero_or_pos L.length with hk0 | hk0
          · obtain rfl : L = [] := List.eq_nil_of_length_eq_zero hk0
            have := HN.out rfl
            simp only [Value.slice.injEq] at this
            obtain ⟨rfl, -, rfl⟩ := this
            simp only [List.length_nil] at hm ⊢
            obtain rfl : m = 0 := by omega
            go_wp2_with (first
              | (at_builtin
                 refine wpList_append_fresh (wc.alloc (.cells (encDone d).toArray 45)) rfl (.tmp 67) (.tmp 69) 30 rfl wc.heap.size 45 (.agg #[.int .i64 0, .int .i64 0, .slice none 0 0, .slice none 0 0, .bool false, .int .u64 0]) 6 80 underlying30 info45 rfl (by decide) (.slice none 0 0) 0 [] (by rfl) (World.ownsRow_nil _ _ _ _) ⟨wc.heap.size, 0, none⟩ 1 1 (encDone d) (by rfl) rfl (cell_new wc (encDone d) 45) (by simp [encDone, Value.oneCell']) (by unfold maxLen; omega) (by omega) (by simp) ?_
                 intro v4 w4 hT4 hg4 ho4
                 rw [Nat.zero_add, List.nil_append] at hT4
                 obtain ⟨g4, c4, rfl, hc4⟩ : ∃ g4 c4, v4 = .slice (some ⟨g4, 0, none⟩) 1 c4 ∧ 1 ≤ c4 := by
                   obtain ⟨_, ⟨_, h2⟩ | ⟨g4, c4, cur, rfl, _, _, h2, _⟩⟩ := hT4
                   · omega
                   · exact ⟨g4, c4, rfl, h2⟩
                 have HT4 := Lib.hid hT4
                 have HG4 := Lib.hid ((Below.refl wc.heap.size wc).alloc (Nat.le_refl _) (.cells (encDone d).toArray 45) |>.grown hg4 (by simp) (fun k hk => by cases hk))
                 clear hT4 hg4 ho4)
              | fail)
            go_tidy
            have HBW := Lib.hid (HBT.out.trans (HG4.out.mono HBT.out.size))
            refine ⟨⟨j + 1, [d], by omega, rfl, ?_, ownsRow_base HT4.out (by have := HBT.out.size; have := HX.out.lt; omega), by simp, HX.out.keep HBW.out HX.out.lt, HB.out.trans (HBW.out.mono HB.out.size)⟩, by simp [intOf]; omega⟩
            simpa using HP.out
          · obtain ⟨g, rfl, hgl, hcap2⟩ : ∃ g, oa = some ⟨g, 0, none⟩ ∧ g < wc.heap.size ∧ L.length ≤ oc := by
              obtain ⟨_, ⟨h1, h2⟩ | ⟨g, c, cur, hv, _, hg, hc, _⟩⟩ := HOX.out
              · omega
              · cases hv; exact ⟨g, rfl, (Array.getElem?_eq_some_iff.1 hg).1, hc⟩
            obtain ⟨q, hq, ⟨qa, qo, rfl⟩, hsl⟩ := drop30 g L.length oc m hm
            have hqc : oc ≠ m → qa = g ∧ qo = m * 6 := fun e => by have := hq e; simp at this; exact this
            clear hq
            have hmc : (m : Int) ≤ (oc : Int) := by omega
            have hmc2 : m ≤ oc := by omega
            have hml : (m : Int) ≤ (L.length : Int) := by omega
            go_wp2_with (first
              | (at_builtin
                 refine wpList_append_fresh wc rfl (.tmp 62) (.tmp 65) 30 rfl wc.heap.size 45 (.agg #[.int .i64 0, .int .i64 0, .slice none 0 0, .slice none 0 0, .bool false, .int .u64 0]) 6 80 underlying30 info45 rfl (by decide) (.slice none 0 0) 0 [] (by rfl) (World.ownsRow_nil _ _ _ _) ⟨g, 0, none⟩ m oc ((L.take m).flatMap encDone) (by rfl) (by rw [flatD_len, List.length_take, show min m L.length = m by omega]) (flatD_take HOX.out m) (encDone_one _) (by unfold maxLen; omega) (by omega) (Nat.le_refl _) ?_
                 intro v3 w3 hT3 hg3 ho3
                 rw [Nat.zero_add, List.nil_append] at hT3
                 obtain ⟨a3, c3, rfl⟩ := owns_slice hT3
                 have hb3 : Below wc.heap.size wc w3 := (Below.refl _ wc).grown hg3 (Nat.le_refl _) (fun k hk => by cases hk)
                 have hK3 := HKX.out.keep hb3 HKX.out.lt
                 have hd0 := hK3.cell (j := 0) (u := .int .i64 d.txn.id.s) rfl
                 have hd1 := hK3.cell (j := 1) (u := .int .i64 d.txn.id.q) rfl
                 have hd2 := hK3.cell (j := 2) (u := d.txn.rv) rfl
                 have hd3 := hK3.cell (j := 3) (u := d.txn.wv) rfl
                 have hd4 := hK3.cell (j := 4) (u := .bool d.yes) rfl
                 have hd5 := hK3.cell (j := 5) (u := .int .u64 d.stamp) rfl
                 have HT3 := Lib.hid hT3
                 have HB3 := Lib.hid hb3
                 clear hT3 hg3 ho3 hb3 hK3)
              | (at_builtin
                 refine wpList_append_fresh (w3.alloc (.cells (encDone d).toArray 45)) rfl (.tmp 67) (.tmp 69) 30 rfl wc.heap.size 45 (.agg #[.int .i64 0, .int .i64 0, .slice none 0 0, .slice none 0 0, .bool false, .int .u64 0]) 6 80 underlying30 info45 rfl (by decide) (.slice a3 m c3) m ((L.take m).flatMap encDone) (by rfl) (HT3.out.alloc _) ⟨w3.heap.size, 0, none⟩ 1 1 (encDone d) (by rfl) rfl (cell_new w3 (encDone d) 45) (by simp [encDone, Value.oneCell']) (by unfold maxLen; omega) (by omega) (by have := HB3.out.size; simp; omega) ?_
                 intro v4 w4 hT4 hg4 ho4
                 obtain ⟨a4, c4, rfl⟩ := owns_slice hT4
                 have hb4 : Below wc.heap.size wc w4 := (HB3.out.alloc HB3.out.size (.cells (encDone d).toArray 45)).grown hg4 (by have := HB3.out.size; simp; omega) (fun k hk => (HT3.out.lt k hk).1)
                 have HT4 := Lib.hid hT4
                 have HB4 := Lib.hid hb4
                 clear hT4 hg4 ho4 hb4)
              | (at_builtin
                 refine wpList_append_fresh w4 rfl (.tmp 71) (.tmp 74) 30 rfl wc.heap.size 45 (.agg #[.int .i64 0, .int .i64 0, .slice none 0 0, .slice none 0 0, .bool false, .int .u64 0]) 6 80 underlying30 info45 rfl (by decide) (.slice a4 (m + 1) c4) (m + 1) ((L.take m).flatMap encDone ++ encDone d) (by rfl) HT4.out ⟨qa, qo, none⟩ (L.length - m) (oc - m) ((L.drop m).flatMap encDone) (by rfl) (by rw [flatD_len, List.length_drop]) (fun j2 u2 hj2 => ?hnew) (by exact encDone_one _) (by unfold maxLen; omega) (by omega) HB4.out.size ?_
                 case hnew =>
                   have hlt2 := (List.getElem?_eq_some_iff.1 hj2).1
                   rw [flatD_len, List.length_drop] at hlt2
                   obtain ⟨rfl, rfl⟩ := hqc (by omega)
                   have := flatD_drop HOX.out m (by omega) j2 u2 hj2
                   rw [Go.WideShapes.add_plain] at this ⊢
                   rw [HB4.out.cell (p := ⟨qa, m * 6 + j2, none⟩) hgl]; exact this
                 intro v5 w5 hT5 hg5 ho5
                 obtain ⟨a5, c5, rfl⟩ := owns_slice hT5
                 have HT5 := Lib.hid hT5
                 have HG5 := Lib.hid (HB4.out.grown hg5 HB4.out.size (fun k hk => (HT4.out.lt k hk).1))
                 clear hT5 hg5 ho5)
              | fail)
            go_tidy
            have hE : (L.take m ++ [d] ++ L.drop m).flatMap encDone = (L.take m).flatMap encDone ++ encDone d ++ (L.drop m).flatMap encDone := by
              rw [List.flatMap_append, List.flatMap_append]; simp
            have hEl : (L.take m ++ [d] ++ L.drop m).length = m + 1 + (L.length - m) := by
              rw [List.length_append, List.length_append, List.length_take, List.length_drop, show min m L.length = m by omega]; rfl
            have HBW := Lib.hid (HBT.out.trans (HG5.out.mono HBT.out.size))
            refine ⟨⟨j + 1, L.take m ++ [d] ++ L.drop m, by omega, rfl, HP.out, ?_, by simp, HX.out.keep HBW.out HX.out.lt, HB.out.trans (HBW.out.mono HB.out.size)⟩, by simp [intOf]; omega⟩
            rw [hE, hEl]
            exact ownsRow_base HT5.out (by have := HBT.out.size; have := HX.out.lt; omega)
    · obtain rfl : j = ds.length := by omega
      rw [List.take_length] at hw
      have e := hw.eq
      subst e
      have HR := Lib.hid (RowOf.of_owns (enc := encDone) (k := 6) (fun _ => rfl) hown rfl)
      have HB := Lib.hid hb
      clear hw hown hnil hbox hb
      go_wp2
      go_tidy
      exact ⟨_, rfl, HR.out, HB.out⟩
end Go.Proofs.Ytmdfilffoomckaa
