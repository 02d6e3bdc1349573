/- The law NetKeeps's walk. Conditions: each law's own. -/
import Derived.Test.YtkkambhkfegodaaMove
import Derived.Test.YtkkambhkfegodaaOrder
namespace Go.Proofs.Ytkkambhkfegodaa
open Go.ChangeShapes Go.WideShapes Go.ChangeAt Go.RowKit

def pl (R : List Nat) : List (List Int) := R.map fun m : Nat => [(m : Int)]
theorem pl_len (R : List Nat) : (pl R).length = R.length := by simp [pl]
theorem pl_range (j : Nat) : pl (List.range j) = pk j := rfl
theorem pl_erase (R : List Nat) (i : Nat) : (pl R).eraseIdx i = pl (R.eraseIdx i) := by simp [pl, List.eraseIdx_eq_take_drop_succ]
theorem map_insert {α β : Type} (f : α → β) (a : α) : ∀ (l : List α) (d : Nat), (l.map f).insertIdx d (f a) = (l.insertIdx d a).map f
  | _, 0 => by simp
  | [], d + 1 => by simp
  | x :: l, d + 1 => by simp [map_insert f a l d]
theorem pl_insert (R : List Nat) (d m : Nat) : (pl R).insertIdx d [(m : Int)] = pl (R.insertIdx d m) := map_insert (fun m : Nat => [(m : Int)]) m R d
theorem pl_at {R : List Nat} {i : Nat} {b : List Int} (h : (pl R)[i]? = some b) : ∃ m, R[i]? = some m ∧ b = [(m : Int)] := by
  unfold pl at h
  rw [List.getElem?_map] at h
  cases hr : R[i]? with
  | none => rw [hr] at h; cases h
  | some m => rw [hr] at h; exact ⟨m, rfl, by simpa using h.symm⟩
/-- The one link's bag. -/
def one (R : List Nat) : Key → List (List Int) := setB (fun _ => []) (1, 2) (pl R)
theorem one_at (R : List Nat) : one R (1, 2) = pl R := setB_same _ _ _
theorem one_set (R : List Nat) (ps : List (List Int)) : setB (one R) (1, 2) ps = setB (fun _ => []) (1, 2) ps := setB_setB' _ _ _ _
theorem move_perm {R : List Nat} {i d m : Nat} (h : R[i]? = some m) (hd : d < R.length) : ((R.eraseIdx i).insertIdx d m).Perm R := by
  have hi : i < R.length := (List.getElem?_eq_some_iff.1 h).1
  have hm : R[i] = m := (List.getElem?_eq_some_iff.1 h).2
  refine (List.perm_insertIdx m (R.eraseIdx i) (by rw [List.length_eraseIdx, if_pos hi]; omega)).trans ?_
  rw [← hm]
  rw [List.eraseIdx_eq_take_drop_succ]
  refine List.perm_middle.symm.trans ?_
  rw [← List.drop_eq_getElem_cons hi, List.take_append_drop]
theorem erase_not {R : List Nat} {i m : Nat} (hn : R.Nodup) (h : R[i]? = some m) : m ∉ R.eraseIdx i := by
  have hi : i < R.length := (List.getElem?_eq_some_iff.1 h).1
  have hm : R[i] = m := (List.getElem?_eq_some_iff.1 h).2
  have hp : (m :: R.eraseIdx i).Perm R := by
    rw [← hm, List.eraseIdx_eq_take_drop_succ]
    refine List.perm_middle.symm.trans ?_
    rw [← List.drop_eq_getElem_cons hi, List.take_append_drop]
  exact (List.nodup_cons.1 (hp.nodup_iff.2 hn)).1
/-- A pair of bytes: two cells. -/
def encP (p : Nat × Nat) : List Value := [.int .u8 (p.1 : Int), .int .u8 (p.2 : Int)]
theorem RowOf.pair {w : World} {a : Option Addr} {n cap : Nat} {ms : List (Nat × Nat)} (h : RowOf encP 2 w (.slice a n cap) ms) {i : Nat} (hi : i < ms.length) :
    ∃ b o p, a = some ⟨b, o, none⟩ ∧ b < w.heap.size ∧ ms[i]? = some p ∧ w.cell? ⟨b, o + i * 2, none⟩ = some (.int .u8 (p.1 : Int)) ∧ w.cell? ⟨b, o + i * 2 + 1, none⟩ = some (.int .u8 (p.2 : Int)) := by
  obtain ⟨a', cap', hv, h1, h2, h3⟩ := h
  cases hv
  obtain ⟨b, o, rfl, hlt, hc⟩ := h3 (by omega)
  have hp : ms[i]? = some ms[i] := List.getElem?_eq_getElem hi
  exact ⟨b, o, ms[i], rfl, hlt, hp, hc i 0 _ _ hp rfl, hc i 1 _ _ hp rfl⟩
def KeepsRel1 (w : World) (x : Nat) (n : Nat) (i : Value) (wr : World) : Prop := ∃ j : Nat, j ≤ n ∧ i = .int .i64 j ∧ LawNet w x (one (List.range j)) j wr
def KeepsRel2 (w : World) (x : Nat) (n k : Nat) (i : Value) (wr : World) : Prop := ∃ j : Nat, j ≤ k ∧ i = .int .i64 j ∧ ∃ R, R.Perm (List.range n) ∧ LawNet w x (one R) n wr
def seenCells (sn : Nat → Bool) : List Value := (List.range 64).map fun m => .bool (sn m)
theorem seen_at (sn : Nat → Bool) {m : Nat} (h : m < 64) : (seenCells sn)[m]? = some (.bool (sn m)) := by
  unfold seenCells
  rw [List.getElem?_map, List.getElem?_range h]; rfl
def setSeen (sn : Nat → Bool) (m : Nat) : Nat → Bool := fun m' => if m' = m then true else sn m'
theorem seen_set (sn : Nat → Bool) {m : Nat} : (seenCells sn).set m (.bool true) = seenCells (setSeen sn m) := by
  apply List.ext_getElem?
  intro j
  rw [List.getElem?_set]
  unfold seenCells setSeen
  simp only [List.getElem?_map, List.length_map, List.length_range]
  by_cases hj : m = j
  · subst hj
    simp only [if_true]
    split
    · rename_i h; rw [List.getElem?_range h]; simp
    · rename_i h
      rw [List.getElem?_eq_none (by simp; omega)]; rfl
  · simp only [hj, if_false]
    cases hr : (List.range 64)[j]? with
    | none => rfl
    | some y =>
      have : y = j := by
        have hl : j < 64 := by have := (List.getElem?_eq_some_iff.1 hr).1; simpa using this
        rw [List.getElem?_range hl] at hr; injection hr with hr; exact hr.symm
      subst this
      simp [Ne.symm hj]
def KeepsRel3 (w : World) (x K : Nat) (n : Nat) (i : Value) (wr : World) : Prop :=
  ∃ j : Nat, j ≤ n ∧ i = .int .i64 j ∧ ∃ s R sn, NetAt wr x s (one R) (fun j => j < w.heap.size ∨ j = K) n ∧ Below w.heap.size w wr ∧ VarAt wr K 37 (seenCells sn) ∧ R.length = n - j ∧ R.Nodup ∧ (∀ m ∈ R, m < n) ∧ ∀ m ∈ R, sn m = false
set_option maxHeartbeats 8000000 in
set_option maxRecDepth 100000 in
theorem c5 (am at_ : Option Addr) (cm ct : Nat) (ms : List (Nat × Nat)) (ns : List Nat) (w : World) (hvm : RowOf encP 2 w (.slice am ms.length cm) ms) (hvt : RowOf encB 1 w (.slice at_ ns.length ct) (ns.map fun m : Nat => (m : Int)))
    (hms : ∀ p ∈ ms, p.1 < 256 ∧ p.2 < 256) (hns : ∀ i, byt ns i < 256) (hlm : ms.length ≤ 100) (hln : ns.length ≤ 60) :
    Calls Try.prog 5 #[.slice am ms.length cm, .slice at_ ns.length ct] w fun e w' => e = .returned (.bool true) ∧ Below w.heap.size w w' := by
  refine gen fun R hR => ?_
  have hl1 : ¬ (100 < (ms.length : Int)) := by omega
  have hl2 : ¬ (60 < (ns.length : Int)) := by omega
  have HVM := Lib.hid hvm
  have HVT := Lib.hid hvt
  have HM := Lib.hid hms
  have HB := Lib.hid hns
  clear hvm hvt hms hns
  go_enter Try.func5, Try.ntmps5
  go_wp2_with (first
    | (go_at_call 8
       (with_reducible refine (c8 _).mono ?_)
       rintro e w1 ⟨rfl, hb8⟩)
    | (go_at_call 9; (with_reducible refine (c9 _).mono ?_); rintro e w' ⟨rfl, rfl⟩)
    | fail)
  have hn0 : LawNet w (w1.heap.size + 1) (fun _ => []) 0 ((w1.alloc (.map #[] 0)).alloc (.cells #[.map (some w1.heap.size)] 62)) :=
    ⟨newNS w1, NetAt.new w1 _ (LawNet.zlt hb8), (hb8.alloc hb8.size _).alloc (by have := hb8.size; simp; omega) _⟩
  have HN0 := Lib.hid hn0
  have hw1 := hb8.size
  clear hn0 hb8
  go_loopw [6] (fun i wr => KeepsRel1 w (w1.heap.size + 1) ns.length i wr) (fun i _ => ns.length - (intOf i).toNat)
  case atStart =>
    refine ⟨0, by omega, rfl, ?_⟩
    have : one (List.range 0) = fun _ => [] := setB_self (fun _ => []) (1, 2)
    rw [this]; exact HN0.out
  case round =>
    obtain ⟨j, hj, rfl, s, hN, hb⟩ := hrel
    rcases Nat.lt_or_ge j ns.length with hlt | hge
    · have hjl : (j : Int) < (ns.length : Int) := by omega
      have hjw : IntKind.u8.wrap (j : Int) = j := by simp [IntKind.wrap, IntKind.signed, IntKind.bits]; omega
      have h10 := c10net (hN.alloc (.cells #[.int .u8 j] 5)) (LawNet.zlt (hb.alloc hb.size (.cells #[.int .u8 j] 5))) 1 2 _ _ (row_byte wr j) (by simp) (by rw [one_at, pl_len, List.length_range]; omega)
      have HN := Lib.hid hN
      have HBB := Lib.hid hb
      clear hN hb
      go_wp2_with (first | (go_at_call 10; refine h10.mono ?_; rintro e w2 ⟨rfl, s2, hN2, hst2⟩) | fail)
      go_tidy
      rw [one_at, one_set] at hN2
      have hps : pl (List.range j) ++ [[(j : Int)]] = pl (List.range (j + 1)) := by simp [pl, List.range_succ]
      rw [hps] at hN2
      exact ⟨⟨j + 1, by omega, rfl, LawNet.step (HN.out.alloc _) (HBB.out.alloc HBB.out.size _) hN2 hst2⟩, by simp [intOf]; omega⟩
    · obtain rfl : j = ns.length := by omega
      have HN := Lib.hid hN
      have HBB := Lib.hid hb
      clear hN hb
      go_wp2
      go_loopw [7] (fun i wr => KeepsRel2 w (w1.heap.size + 1) ns.length ms.length i wr) (fun i _ => ms.length - (intOf i).toNat)
      case atStart => exact ⟨0, by omega, rfl, _, .refl _, s, HN.out, HBB.out⟩
      case round =>
        obtain ⟨j, hj2, rfl, R2, hperm, s2, hN2, hb2⟩ := hrel
        have HP := Lib.hid hperm
        have HN2 := Lib.hid hN2
        have HB2 := Lib.hid hb2
        clear hperm hN2 hb2
        by_cases c1 : (j : Int) < (ms.length : Int)
        · by_cases c2 : 0 < (ns.length : Int)
          · obtain ⟨b, o, ⟨pa, pb⟩, rfl, hbl, hmp, hc0, hc1⟩ := HVM.out.pair (show j < ms.length by omega)
            have hpp := HM.out _ (List.mem_of_getElem? hmp)
            rw [← HB2.out.cell (p := ⟨b, o + j * 2, none⟩) hbl] at hc0
            rw [← HB2.out.cell (p := ⟨b, o + j * 2 + 1, none⟩) hbl] at hc1
            have hbl2 : b < wr.heap.size := Nat.lt_of_lt_of_le hbl HB2.out.size
            obtain ⟨q1, hq1⟩ : ∃ q : Nat, q = pa % ns.length := ⟨_, rfl⟩
            obtain ⟨q2, hq2⟩ : ∃ q : Nat, q = pb % ns.length := ⟨_, rfl⟩
            have hl1n : q1 < ns.length := by rw [hq1]; exact Nat.mod_lt _ (by omega)
            have hl2n : q2 < ns.length := by rw [hq2]; exact Nat.mod_lt _ (by omega)
            have hRl : R2.length = ns.length := by rw [HP.out.length_eq, List.length_range]
            have h14 := c14 HN2.out.drew (LawNet.zlt HB2.out.drew) 1 2 q1 q2 (by rw [one_at, pl_len]; omega) (by rw [one_at, pl_len]; omega)
            simp only at hc0 hc1 hpp
            have hz0 : ¬ ((ns.length : Int) = 0) := by omega
            have hz1 : ((ns.length : Int) == 0) = false := by simpa using hz0
            have hz2 : ¬ (ns.length = 0) := by omega
            have hz3 : ¬ (ns = []) := fun e => by rw [e] at hz2; exact hz2 rfl
            have ha1 := wrap_nat pa hpp.1
            have ha2 := wrap_nat pb hpp.2
            have ha3 := wrap_nat q1 (by omega)
            have ha4 := wrap_nat q2 (by omega)
            have ht1 : ((pa : Int).tmod (ns.length : Int)) = (q1 : Int) := by rw [hq1]; exact tmod_nat pa ns.length
            have ht2 : ((pb : Int).tmod (ns.length : Int)) = (q2 : Int) := by rw [hq2]; exact tmod_nat pb ns.length
            have ht3 : ((pa : Int) % (ns.length : Int)) = (q1 : Int) := by rw [hq1]; exact (Int.natCast_emod pa ns.length).symm
            have ht4 : ((pb : Int) % (ns.length : Int)) = (q2 : Int) := by rw [hq2]; exact (Int.natCast_emod pb ns.length).symm
            clear hq1 hq2 hmp hpp
            go_wp2_with fail
            go_region_held3 (fun w' => w'.cell? ⟨b, o + j * 2, none⟩ = some (.int .u8 (pa : Int)) ∧ w'.cell? ⟨b, o + j * 2 + 1, none⟩ = some (.int .u8 (pb : Int)))
              (first | exact ⟨hd0, hd1⟩ | go_keep | fail)
              (first
                | (go_at_call 14
                   refine h14.mono ?_
                   rintro e w3 ⟨rfl, bb, s3, hbb, hN3, hst3⟩
                   have hd0 : w3.cell? ⟨b, o + j * 2, none⟩ = some (.int .u8 (pa : Int)) := by
                     rw [World.cell?_of_block (a := ⟨b, o + j * 2, none⟩) (hst3.frame.block b hbl2 (fun ho => (HN2.out.lt b ho).2 hbl))]
                     exact hc0
                   have hd1 : w3.cell? ⟨b, o + j * 2 + 1, none⟩ = some (.int .u8 (pb : Int)) := by
                     rw [World.cell?_of_block (a := ⟨b, o + j * 2 + 1, none⟩) (hst3.frame.block b hbl2 (fun ho => (HN2.out.lt b ho).2 hbl))]
                     exact hc1)
                | fail)
            go_wp2
            go_tidy
            rw [one_at] at hbb
            obtain ⟨m, hRm, rfl⟩ := pl_at hbb
            rw [one_at, pl_erase, pl_insert, one_set] at hN3
            refine ⟨⟨j + 1, by omega, rfl, _, (move_perm hRm (by omega)).trans HP.out, LawNet.step HN2.out.drew HB2.out.drew hN3 hst3⟩, by simp [intOf]; omega⟩
          · have c3 : (j : Int) < (ms.length : Int) := c1
            go_wp2
            generalize hWK : (World.alloc _ _) = WK
            have hK : VarAt WK wr.heap.size 37 (seenCells fun _ => false) := by rw [← hWK]; exact VarAt.new wr 37 (seenCells fun _ => false)
            have hBK : Below w.heap.size w WK := by rw [← hWK]; exact HB2.out.alloc HB2.out.size _
            have hNK : NetAt WK (w1.heap.size + 1) s2 (one R2) (fun j => j < w.heap.size ∨ j = wr.heap.size) ns.length := by
              rw [← hWK]
              refine HN2.out.keep (A := fun _ => True) (.of_below ((Below.refl _ _).alloc (Nat.le_refl _) _) : Frame (fun _ => True) wr _) (fun j hj hz => ⟨trivial, ?_⟩)
              rintro (h | h)
              · exact hz h
              · omega
            have HNK := Lib.hid hNK
            have HBK := Lib.hid hBK
            have HKK := Lib.hid hK
            have hwrs := HB2.out.size
            clear hK hBK hNK hWK
            generalize hKb : wr.heap.size = Kb at *
            clear hKb
            go_loopw [9] (fun i wr2 => KeepsRel3 w (w1.heap.size + 1) Kb ns.length i wr2) (fun i _ => ns.length - (intOf i).toNat)
            case atStart => exact ⟨0, by omega, rfl, s2, R2, _, HNK.out, HBK.out, HKK.out, by rw [HP.out.length_eq, List.length_range]; omega, HP.out.nodup_iff.2 List.nodup_range, fun m hm => by have := HP.out.mem_iff.1 hm; simpa using this, fun _ _ => rfl⟩
            case round =>
              obtain ⟨j, hj3, rfl, s3, R3, sn, hN3, hb3, hK3, hlen3, hnd3, hlt3, hun3⟩ := hrel
              rcases Nat.lt_or_ge j ns.length with hlt | hge2
              · exact absurd hlt (by omega)
              · obtain rfl : j = ns.length := by omega
                obtain rfl : R3 = [] := List.eq_nil_of_length_eq_zero (by omega)
                have hB0 : ∀ k, one [] k = [] := fun k => by
                  unfold one setB; split <;> rfl
                have h11 := c11none hN3 1 2 0 (by rw [hB0]; simp)
                have HN3 := Lib.hid hN3
                have HB3 := Lib.hid hb3
                have HZ := Lib.hid hB0
                clear hN3 hb3 hK3 hlen3 hnd3 hlt3 hun3 hB0
                go_wp2_with (first
                  | (go_at_call 11
                     refine h11.mono ?_
                     rintro e wc ⟨rfl, hbc⟩
                     have HNC := Lib.hid (HN3.out.below hbc)
                     have HBC := Lib.hid (HB3.out.trans (hbc.mono HB3.out.size))
                     clear hbc)
                  | (go_at_call 12
                     refine (c12 HNC.out (by omega)).mono ?_
                     rintro e wd ⟨ks, rfl, h1, h2, _, hbd⟩
                     rw [no_total h2 HZ.out]
                     have HND := Lib.hid (HNC.out.below hbd)
                     have HBD := Lib.hid (HBC.out.trans (hbd.mono HBC.out.size))
                     clear hbd h1 h2)
                  | (go_at_call 15
                     refine (c15 HND.out (by omega)).mono ?_
                     rintro e we ⟨lv, ks2, rfl, hlr, _, h2, _, hbe⟩
                     obtain rfl : ks2 = [] := List.eq_nil_iff_forall_not_mem.2 fun k hk => (h2 k).1 hk (HZ.out k)
                     obtain ⟨la, lc, rfl, -⟩ := id hlr
                     have HBE := Lib.hid (HBD.out.trans (hbe.mono HBD.out.size))
                     clear hbe h2 hlr)
                  | fail)
                all_goals
                  go_tidy
                  first
                    | exact HBE.out
                    | exact ⟨rfl, HBE.out⟩
                    | (simp_all; done)
        · skip
          go_wp2
          generalize hWK : (World.alloc _ _) = WK
          have hK : VarAt WK wr.heap.size 37 (seenCells fun _ => false) := by rw [← hWK]; exact VarAt.new wr 37 (seenCells fun _ => false)
          have hBK : Below w.heap.size w WK := by rw [← hWK]; exact HB2.out.alloc HB2.out.size _
          have hNK : NetAt WK (w1.heap.size + 1) s2 (one R2) (fun j => j < w.heap.size ∨ j = wr.heap.size) ns.length := by
            rw [← hWK]
            refine HN2.out.keep (A := fun _ => True) (.of_below ((Below.refl _ _).alloc (Nat.le_refl _) _) : Frame (fun _ => True) wr _) (fun j hj hz => ⟨trivial, ?_⟩)
            rintro (h | h)
            · exact hz h
            · omega
          have HNK := Lib.hid hNK
          have HBK := Lib.hid hBK
          have HKK := Lib.hid hK
          have hwrs := HB2.out.size
          clear hK hBK hNK hWK
          generalize hKb : wr.heap.size = Kb at *
          clear hKb
          go_loopw [9] (fun i wr2 => KeepsRel3 w (w1.heap.size + 1) Kb ns.length i wr2) (fun i _ => ns.length - (intOf i).toNat)
          case atStart => exact ⟨0, by omega, rfl, s2, R2, _, HNK.out, HBK.out, HKK.out, by rw [HP.out.length_eq, List.length_range]; omega, HP.out.nodup_iff.2 List.nodup_range, fun m hm => by have := HP.out.mem_iff.1 hm; simpa using this, fun _ _ => rfl⟩
          case round =>
            obtain ⟨j, hj3, rfl, s3, R3, sn, hN3, hb3, hK3, hlen3, hnd3, hlt3, hun3⟩ := hrel
            rcases Nat.lt_or_ge j ns.length with hlt | hge2
            · obtain ⟨b, o, rfl, -, hbl, hcs⟩ := HVT.out.byte hlt
              have hcj := hcs j hlt
              rw [← hb3.cell (p := ⟨b, o + j, none⟩) hbl] at hcj
              have hbl2 : b < wr.heap.size := Nat.lt_of_lt_of_le hbl hb3.size
              obtain ⟨q, hq⟩ : ∃ q : Nat, q = byt ns j % (ns.length - j) := ⟨_, rfl⟩
              have hqn : q < R3.length := by rw [hlen3, hq]; exact Nat.mod_lt _ (by omega)
              have h11 := c11 hN3 (fun j hj => hj.elim (fun h => Nat.lt_of_lt_of_le h hb3.size) (fun h => by rw [h]; exact hK3.lt)) 1 2 q (by rw [one_at, pl_len]; exact hqn)
              have hl256 := HB.out j
              generalize byt ns j = l at *
              have hjl : (j : Int) < (ns.length : Int) := by omega
              have hi1 : IntKind.i64.wrap ((ns.length : Int) - (j : Int)) = (ns.length : Int) - (j : Int) := by simp [IntKind.wrap, IntKind.signed, IntKind.bits]; omega
              have hz0 : ¬ ((ns.length : Int) - (j : Int) = 0) := by omega
              have hz1 : ((ns.length : Int) - (j : Int) == 0) = false := by simpa using hz0
              have hwl := wrap_nat l hl256
              have htm : ((l : Int).tmod ((ns.length : Int) - (j : Int))) = (q : Int) := by
                have := tmod_nat l (ns.length - j)
                rw [← hq, show (((ns.length - j : Nat)) : Int) = (ns.length : Int) - (j : Int) by omega] at this
                exact this
              have hwq := wrap_nat q (by omega)
              have HN3 := Lib.hid hN3
              have HB3 := Lib.hid hb3
              have HK3 := Lib.hid hK3
              have HU3 := Lib.hid hun3
              have HL3 := Lib.hid hlt3
              have HD3 := Lib.hid hnd3
              have HE3 := Lib.hid hlen3
              clear hN3 hb3 hK3 hcs hq hun3 hlt3 hnd3 hlen3
              go_wp2_with (first
                | (go_at_call 11
                   refine h11.mono ?_
                   rintro e wd ⟨pv, bb, rfl, hbk, hrow, s4, hou, hN4, hst4⟩
                   rw [one_at] at hbk
                   obtain ⟨m, hRm, rfl⟩ := pl_at hbk
                   have hmn := HL3.out m (List.mem_of_getElem? hRm)
                   have hsm := HU3.out m (List.mem_of_getElem? hRm)
                   obtain ⟨pa, pc, rfl, _, _, hp3⟩ := id hrow
                   obtain ⟨pg, po, rfl, hpl, hpc⟩ := hp3 (by simp)
                   have hcell : wd.cell? ⟨pg, po, none⟩ = some (.int .u8 (m : Int)) := hpc 0 0 _ _ rfl rfl
                   have hKd : VarAt wd Kb 37 (seenCells sn) := by
                     unfold VarAt
                     rw [hst4.frame.block Kb HK3.out.lt (fun ho => (HN3.out.lt Kb ho).2 (.inr rfl))]
                     exact HK3.out
                   have hcK := hKd.cell (seen_at sn (show m < 64 by omega))
                   rw [hsm] at hcK
                   have hfK := hKd.free m
                   have hBD : Below w.heap.size w wd := HB3.out.trans (hst4.below (fun j hj => Nat.not_lt.1 (fun h => (HN3.out.lt j hj).2 (.inl h))) HB3.out.size)
                   have hm64 : (m : Int) < 64 := by omega
                   have hm65 : ¬ (64 ≤ (m : Int)) := by omega
                   have hKL := hKd.lt
                   have HKD := Lib.hid hKd
                   have HBD := Lib.hid hBD
                   have HRM := Lib.hid hRm
                   have HN4 := Lib.hid hN4
                   clear hKd hBD hpc hp3 hrow hbk hou hN4 hst4 hRm hsm)
                | fail)
              go_tidy
              have hN4 := HN4.out
              rw [one_at, pl_erase, one_set] at hN4
              have hK4 := HKD.out.set m (.bool true)
              rw [seen_set] at hK4
              have hF4 : Frame (fun j => j ≠ Kb) wd (wd.setCell ⟨Kb, m, none⟩ (.bool true)) :=
                ⟨rfl, rfl, rfl, by simp, fun j _ h => Below.heap_setCell wd ⟨Kb, m, none⟩ (.bool true) j h⟩
              refine ⟨⟨j + 1, by omega, rfl, s4, R3.eraseIdx q, _, hN4.keep hF4 (fun j _ hz => ⟨fun e => hz (.inr e), hz⟩), HBD.out.setCell (p := ⟨Kb, m, none⟩) hwrs _, hK4, by rw [List.length_eraseIdx, if_pos hqn, HE3.out]; omega, HD3.out.sublist (List.eraseIdx_sublist ..), fun m' hm' => HL3.out m' ((List.eraseIdx_sublist ..).subset hm'), fun m' hm' => ?_⟩, by simp [intOf]; omega⟩
              unfold setSeen
              rw [if_neg]
              · exact HU3.out m' ((List.eraseIdx_sublist ..).subset hm')
              · rintro rfl
                exact erase_not HD3.out HRM.out hm'
            · obtain rfl : j = ns.length := by omega
              obtain rfl : R3 = [] := List.eq_nil_of_length_eq_zero (by omega)
              have hB0 : ∀ k, one [] k = [] := fun k => by
                unfold one setB; split <;> rfl
              have h11 := c11none hN3 1 2 0 (by rw [hB0]; simp)
              have HN3 := Lib.hid hN3
              have HB3 := Lib.hid hb3
              have HZ := Lib.hid hB0
              clear hN3 hb3 hK3 hlen3 hnd3 hlt3 hun3 hB0
              go_wp2_with (first
                | (go_at_call 11
                   refine h11.mono ?_
                   rintro e wc ⟨rfl, hbc⟩
                   have HNC := Lib.hid (HN3.out.below hbc)
                   have HBC := Lib.hid (HB3.out.trans (hbc.mono HB3.out.size))
                   clear hbc)
                | (go_at_call 12
                   refine (c12 HNC.out (by omega)).mono ?_
                   rintro e wd ⟨ks, rfl, h1, h2, _, hbd⟩
                   rw [no_total h2 HZ.out]
                   have HND := Lib.hid (HNC.out.below hbd)
                   have HBD := Lib.hid (HBC.out.trans (hbd.mono HBC.out.size))
                   clear hbd h1 h2)
                | (go_at_call 15
                   refine (c15 HND.out (by omega)).mono ?_
                   rintro e we ⟨lv, ks2, rfl, hlr, _, h2, _, hbe⟩
                   obtain rfl : ks2 = [] := List.eq_nil_iff_forall_not_mem.2 fun k hk => (h2 k).1 hk (HZ.out k)
                   obtain ⟨la, lc, rfl, -⟩ := id hlr
                   have HBE := Lib.hid (HBD.out.trans (hbe.mono HBD.out.size))
                   clear hbe h2 hlr)
                | fail)
              all_goals
                go_tidy
                first
                  | exact HBE.out
                  | exact ⟨rfl, HBE.out⟩
                  | (simp_all; done)
end Go.Proofs.Ytkkambhkfegodaa
