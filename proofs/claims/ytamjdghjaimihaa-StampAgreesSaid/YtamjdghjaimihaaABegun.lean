/- All begin: first what is made of the groups, then each group begins its own in its order. Conditions: each law's own. -/
import Derived.Test.YtamjdghjaimihaaAStep
namespace Go.Proofs.Ytamjdghjaimihaa
open Go.ChangeShapes Go.WideShapes Go.ChangeAt Go.RowKit

def cm0 (A : List RefO) (av : Value) : CM := ⟨fun _ => 0, fun _ => .pointer none, fun _ => ⟨0, []⟩, fun _ => [], fun _ => .slice none 0 0, A, av, fun _ => [], fun _ => .slice none 0 0, fun _ => [], fun _ => .slice none 0 0⟩
theorem CAt.start {w : World} {c B : Nat} (h : VarAt w c 52 (encC (cm0 [] (.slice none 0 0)))) (hB : B ≤ c) : CAt w c 0 (cm0 [] (.slice none 0 0)) B where
  n4 := by omega
  box := h
  ptr := fun g hg => absurd hg (Nat.not_lt_zero g)
  q := fun g hg => absurd hg (Nat.not_lt_zero g)
  all := World.ownsRow_nil _ _ _ _
  gs := fun z hz => by cases hz
  t := fun _ _ => World.ownsRow_nil _ _ _ _
  f := fun _ _ => World.ownsRow_nil _ _ _ _
  low := hB
  sep := by
    have hz : ∀ i k, CZone c 0 (cm0 [] (.slice none 0 0)) i k → i = 4 := fun i k hk => by
      rcases hk with ⟨h1, -⟩ | ⟨h1, -⟩ | ⟨-, h1 | ⟨_, h1, -⟩⟩ | ⟨_, -, -, h1⟩ | ⟨_, -, -, h1⟩
      · omega
      · exact h1
      · cases h1
      · cases h1
      · cases h1
      · cases h1
    exact fun i j k h1 h2 => by rw [hz i k h1, hz j k h2]
def BegRel1 (n0 c B : Nat) (w : World) (i : Value) (wr : World) : Prop := ∃ (n : Nat) (A : List RefO) (av : Value), i = .int .i64 n ∧ n ≤ n0 ∧ CAt wr c 0 (cm0 A av) B ∧ MadeOk (A.map (·.1)) n ∧ Below B w wr
def BegRel2 (b : Nat) (id : IdD) (w : World) (i : Value) (wr : World) : Prop := ∃ (g : Nat) (l : List Int) (gv : Value), i = .int .i64 g ∧ g ≤ 4 ∧ VarAt wr b 55 (encR (⟨id, l, fun _ => 0⟩, gv)) ∧
  wr.ownsRow (b + 1) 3 1 gv l.length (l.map (Value.int .i64)) ∧ l.Pairwise (· < ·) ∧ (∀ x ∈ l, 0 ≤ x ∧ x < g) ∧ l.length ≤ g ∧ Below w.heap.size w wr
def BegRel3 (c B : Nat) (w : World) (i : Value) (wr : World) : Prop := ∃ (g : Nat) (m : CM), i = .int .i64 g ∧ g ≤ 4 ∧ CAt wr c g m B ∧ BInv m g ∧ Below B w wr
def BegRel4 (c B g d N ol : Nat) (av : Value) (w : World) (i : Value) (wr : World) : Prop := ∃ (n : Nat) (m : CM) (D : List Bool), i = .int .i64 n ∧ n ≤ N + ol ∧ BMid wr c B g d N ol n av m D ∧ Below B w wr
theorem und87 : Try.prog.underlying 87 = some (.slice 4) := by kernel_rfl
theorem info4 : (Try.prog.info? 4).map (fun i => (i.zero, i.size, i.bytes)) = some (some (.bool false), 1, 1) := by kernel_rfl
theorem made_bools (N : Nat) : madeCells #[.bool false] N = ((List.replicate N false).map Value.bool).toArray := by
  unfold madeCells
  apply Array.ext
  · simp
  · intro i h1 h2
    simp [Nat.mod_one]
theorem makeB (N : Nat) (hN : N ≤ 1000) (W : World) : (Instr.makeSlice 87 (.int .i64 (N : Int)) (.int .i64 (N : Int))).run Try.prog W = .ok (.slice (some ⟨W.heap.size, 0, none⟩) N N) (W.alloc (.cells ((List.replicate N false).map Value.bool).toArray 4)) := by
  obtain ⟨i, hi, hz, hs, hb⟩ := info_parts info4
  have h := run_makeSlice (P := Try.prog) (w := W) 87 4 i (.bool false) und87 hi hz .i64 .i64 N N (by omega) (Int.le_refl _) (by rw [hs]; simp; omega) (by rw [hb]; omega) (by omega)
  rw [h, hs]
  simp only [Int.toNat_natCast, Nat.mul_one]
  rw [show (Value.bool false).cells = #[.bool false] from rfl, made_bools]
theorem BInv.newQ {m : CM} {g x : Nat} (h : BInv m g) : BInv { m with x := upd m.x g x, p := upd m.p g (.pointer (some ⟨x, 0, none⟩)), S := upd m.S g ⟨0, []⟩, M := upd m.M g [], v := upd m.v g (.slice none 0 0) } g :=
  ⟨h.upto, fun i hi => by
    have e : i ≠ g := by omega
    simp only [upd_ne _ _ e]; exact h.begun i hi, fun i hi => by
    have e : i ≠ g := by omega
    simp only [upd_ne _ _ e]; exact h.few i hi, h.tu⟩
theorem rise_len : ∀ (l : List Int) (lo hi : Int), l.Pairwise (· < ·) → (∀ x ∈ l, lo ≤ x ∧ x < hi) → lo ≤ hi → lo + l.length ≤ hi
  | [], lo, hi, _, _, h => by simpa using h
  | a :: l, lo, hi, hp, hr, h => by
    rw [List.pairwise_cons] at hp
    have h1 := hr a (List.mem_cons_self ..)
    have := rise_len l (a + 1) hi hp.2 (fun x hx => ⟨by have := hp.1 x hx; omega, (hr x (List.mem_cons_of_mem _ hx)).2⟩) (by omega)
    rw [List.length_cons]; omega
theorem may_len {a : OneD} (h : MayOk a) : a.groups.length ≤ 4 := by
  have := rise_len a.groups 0 4 h.rises h.range (by omega)
  omega
theorem row_free {w : World} {base e size n cap lk : Nat} {xs : List Value} (h : w.ownsRow base e size (.slice (some ⟨lk, 0, none⟩) n cap) n xs) (j : Nat) : w.frozen? ⟨lk, j, none⟩ = false := by
  obtain ⟨-, ⟨h3, -⟩ | ⟨g', cap', cur, h3, -, h4, -⟩⟩ := h
  · cases h3
  · cases h3
    simp [World.frozen?, h4]
def BgS (c g lk o : Nat) (p av : Value) (y : RefO) (W : World) : Prop := W.cell? ⟨c, g, none⟩ = some p ∧ W.cell? ⟨c, 4, none⟩ = some av ∧ c < W.heap.size ∧ CellsR lk o y W
theorem BgS.of {w : World} {c n : Nat} {m : CM} {B g lk cap k : Nat} {y : RefO} (h : CAt w c n m B) (hg : g < n) (hav : m.av = .slice (some ⟨lk, 0, none⟩) m.A.length cap) (hy : m.A[k]? = some y) : BgS c g lk (k * 7) (.pointer (some ⟨m.x g, 0, none⟩)) m.av y w := by
  have hn := h.n4
  refine ⟨by rw [← h.ptr g hg]; exact h.box.cell (encC_at m (by omega)).1, h.box.cell (j := 4) rfl, h.box.lt, ?_⟩
  have hr := h.all
  rw [hav] at hr
  exact CellsR.of hr hy
def BegEnd (w : World) (e : Ending) (w' : World) : Prop := ∃ c m B', e = .returned (.tuple #[.pointer (some ⟨c, 0, none⟩), .bool true]) ∧ Good w' c m B' ∧ w.heap.size ≤ B' ∧ Below w.heap.size w w'
set_option maxHeartbeats 8000000 in
set_option maxRecDepth 1000000 in
theorem c18 {w : World} {gv : Value} {gs : List (List Int × Value)} {o : Nat → List Int} {ov : Nat → Value} (hG : RowOf encGV 1 w gv gs) (hGs : ∀ x ∈ gs, RowOf encG 1 w x.2 x.1 ∧ x.1.length ≤ 10) (hO : OrdAt w o ov) (hl : gs.length ≤ 20) (hol : ∀ g, g < 4 → (o g).length ≤ 200) :
    Calls Try.prog 18 #[gv, .agg #[ov 0, ov 1, ov 2, ov 3]] w (BegEnd w) := by
  refine gen (S := BegEnd w) fun R hR => ?_
  obtain ⟨W1, hW1⟩ : ∃ W1 : World, W1 = w.alloc (.cells #[ov 0, ov 1, ov 2, ov 3] 41) := ⟨_, rfl⟩
  obtain ⟨b0, hb0⟩ : ∃ b, b = w.heap.size := ⟨_, rfl⟩
  have hb1 : Below w.heap.size w W1 := by rw [hW1]; exact (Below.refl _ _).alloc (Nat.le_refl _) _
  have hV1 : VarAt W1 b0 41 (encO ov) := by rw [hW1, hb0]; exact VarAt.new w 41 _
  obtain ⟨c, hc⟩ : ∃ c, c = W1.heap.size := ⟨_, rfl⟩
  obtain ⟨W2, hW2⟩ : ∃ W2 : World, W2 = W1.alloc (.cells #[.pointer none, .pointer none, .pointer none, .pointer none, .slice none 0 0, .slice none 0 0, .slice none 0 0, .slice none 0 0, .slice none 0 0, .slice none 0 0, .slice none 0 0, .slice none 0 0, .slice none 0 0] 52) := ⟨_, rfl⟩
  have hb2 : Below W1.heap.size W1 W2 := by rw [hW2]; exact (Below.refl _ _).alloc (Nat.le_refl _) _
  have hC2 : CAt W2 c 0 (cm0 [] (.slice none 0 0)) W1.heap.size := CAt.start (by rw [hW2, hc]; exact VarAt.new W1 52 _) (by omega)
  obtain ⟨ga, gc, hgv, -⟩ := _root_.id hG
  have HW1 := Lib.hid hW1
  have HB0 := Lib.hid hb0
  have HB1 := Lib.hid hb1
  have HV1 := Lib.hid hV1
  have HC := Lib.hid hc
  have HW2 := Lib.hid hW2
  have HB2 := Lib.hid hb2
  have HC2 := Lib.hid hC2
  have HG := Lib.hid hG
  have HGS := Lib.hid hGs
  have HO := Lib.hid hO
  have HOL := Lib.hid hol
  have HR := Lib.hid hR
  have HGV := Lib.hid hgv
  have e0 : gv = .slice ga gs.length gc := hgv
  subst e0
  clear hW1 hb0 hb1 hV1 hc hW2 hb2 hC2 hG hGs hO hol hR hgv
  go_enter Try.func18, Try.ntmps18
  go_upto_region 1 with fail
  rw [← HW1.out, ← HB0.out]
  go_upto_region 2 with fail
  rw [← HW2.out, ← HC.out]
  go_wp2
  go_loopw [7] (fun i wr => BegRel1 gs.length c W1.heap.size W1 i wr) (fun i _ => gs.length - (intOf i).toNat)
  case atStart => exact ⟨0, [], _, rfl, Nat.zero_le _, HC2.out, MadeOk.start, HB2.out⟩
  case round =>
    obtain ⟨n, A, av, rfl, hn, hC, hM, hb⟩ := hrel
    have HCn := Lib.hid hC
    have HM := Lib.hid hM
    have HB := Lib.hid hb
    clear hC hM hb
    rcases Nat.lt_or_ge n gs.length with hlt | hge
    · have hnI : (n : Int) < (gs.length : Int) := by omega
      obtain ⟨wo, hwo⟩ : ∃ x, x = wr := ⟨_, rfl⟩
      subst hwo
      go_upto_region 6 with fail
      generalize hW3 : World.alloc wo _ = W3
      have hb3 : Below wo.heap.size wo W3 := by rw [← hW3]; exact (Below.refl _ _).alloc (Nat.le_refl _) _
      obtain ⟨b, hbd⟩ : ∃ b, b = wo.heap.size := ⟨_, rfl⟩
      have hV3 : VarAt W3 b 55 (encR (⟨idN n, [], fun _ => 0⟩, .slice none 0 0)) := by rw [← hW3, hbd]; exact VarAt.new wo 55 _
      rw [← hbd]
      have HB3 := Lib.hid hb3
      have HBD := Lib.hid hbd
      have HV3 := Lib.hid hV3
      clear hW3 hb3 hbd hV3
      go_wp2
      go_loopw [9] (fun i wr2 => BegRel2 b (idN n) wo i wr2) (fun i _ => 4 - (intOf i).toNat)
      case atStart => exact ⟨0, [], _, rfl, by omega, HV3.out, World.ownsRow_nil _ _ _ _, .nil, by simp, by simp, HB3.out⟩
      case round =>
        obtain ⟨g, l, lv, rfl, hg4, hV, hrow, hrise, hrg, hll, hbb⟩ := hrel
        have HV := Lib.hid hV
        have HROW := Lib.hid hrow
        have HRISE := Lib.hid hrise
        have HRG := Lib.hid hrg
        have HBB := Lib.hid hbb
        have HLL := Lib.hid hll
        clear hV hrow hrise hrg hbb hll
        rcases Nat.lt_or_ge g 4 with hg | hg
        · have hgI : (g : Int) < 4 := by omega
          obtain ⟨x, hx⟩ : ∃ x, gs[n]? = some x := ⟨_, List.getElem?_eq_getElem hlt⟩
          have hbw : Below w.heap.size w wr := HB1.out.trans ((HB.out.trans (HBB.out.mono HB.out.size)).mono HB1.out.size)
          obtain ⟨gb, go', gcap, hgv, hgl, hgc⟩ := (HG.out.keep hbw).cells hx
          cases hgv
          have g0 := hgc 0 _ rfl
          rw [Nat.mul_one, Nat.add_zero] at g0
          have h38 := c38 (((HGS.out x (List.mem_of_getElem? hx)).1).keep hbw) g
          have HBW := Lib.hid hbw
          have HXL := Lib.hid hlt
          clear hgc hbw hx hlt
          by_cases hin : (g : Int) ∈ x.1
          · have hd : decide ((g : Int) ∈ x.1) = true := decide_eq_true hin
            rw [hd] at h38
            have H38 := Lib.hid h38
            clear h38 hin hd
            go_upto_region 10 with (first | (go_at_call 38; refine H38.out.mono ?_; rintro e w2 ⟨rfl, rfl⟩) | fail)
            obtain ⟨la, lc, hlv⟩ := owns_slice' HROW.out
            subst hlv
            have q2 := HV.out.cell (j := 2) rfl
            have ql := HV.out.lt
            have hbA : Below w2.heap.size w2 (w2.alloc (.cells #[.int .i64 g] 3)) := (Below.refl _ _).alloc (Nat.le_refl _) _
            have HBA := Lib.hid hbA
            have hl4 : l.length ≤ 4 := by have := HLL.out; omega
            clear hbA
            go_upto_region 8 with (first
              | (at_builtin
                 (refine wpList_append_fresh (w2.alloc (.cells #[.int .i64 g] 3)) rfl (.tmp 43) (.tmp 45) 32 rfl (b + 1) 3 (.int .i64 0) 1 8 und32 inf3 rfl (by decide) (.slice la l.length lc) l.length (l.map (Value.int .i64)) (by rfl) ?hrow ⟨w2.heap.size, 0, none⟩ 1 1 [.int .i64 g] (by rfl) rfl ?hnew ?hone (by unfold maxLen; omega) (by omega) ?hB ?_)
                 case hrow => exact own_belowW HROW.out HBA.out
                 case hnew => exact fun j u hu => cell_new w2 [.int .i64 g] 3 j u hu
                 case hone => (intro u hu; simp only [List.mem_cons, List.not_mem_nil, or_false] at hu; subst hu; rfl)
                 case hB => (have := HV.out.lt; simp; omega)
                 intro v5 w5 hT5 hg5 ho5
                 obtain ⟨a5, c5, hv5⟩ := owns_slice' hT5
                 subst hv5
                 have hV5 := (HV.out.keep HBA.out HV.out.lt).grown hg5 (fun e => by have := (HROW.out.lt b e.symm).1; omega)
                 have HT5 := Lib.hid hT5
                 have HG5 := Lib.hid hg5
                 have HV5 := Lib.hid hV5
                 clear hT5 hg5 ho5 q2 ql
                 have pz := hV5.free 2
                 have pc := hV5.cell (j := 2) rfl
                 have pl := hV5.lt
                 clear hV5)
              | fail)
            generalize hW6 : World.setCell w5 _ _ = w6
            have hV6 : VarAt w6 b 55 (encR (⟨idN n, l ++ [(g : Int)], fun _ => 0⟩, .slice a5 (l.length + 1) c5)) := by rw [← hW6]; exact HV5.out.set 2 _
            have hlb := fun k (hk : (Value.slice a5 (l.length + 1) c5).ownBlock = some k) => (HT5.out.lt k hk).1
            have hrow6 : w6.ownsRow (b + 1) 3 1 (.slice a5 (l.length + 1) c5) (l ++ [(g : Int)]).length ((l ++ [(g : Int)]).map (Value.int .i64)) := by
              rw [← hW6, List.length_append, List.map_append]
              exact ownsRow_keep HT5.out fun k hk => Below.heap_setCell _ _ _ k (by have := hlb k hk; show k ≠ b; omega)
            have hbb6 : Below wo.heap.size wo w6 := by
              have hsz := HBB.out.size
              have hsA := HBA.out.size
              refine ⟨?_, ?_, ?_, ?_, fun k hk => ?_⟩
              · rw [← hW6]; exact HG5.out.os.trans (HBA.out.os.trans HBB.out.os)
              · rw [← hW6]; exact HG5.out.tape.trans (HBA.out.tape.trans HBB.out.tape)
              · rw [← hW6]; exact HG5.out.output.trans (HBA.out.output.trans HBB.out.output)
              · rw [← hW6]; have := HG5.out.size; simp; omega
              · rw [← hW6, Below.heap_setCell _ _ _ k (by show k ≠ b; rw [HBD.out]; omega), HG5.out.block k (by omega) (fun e => by have := (HROW.out.lt k e.symm).1; have := HBD.out; omega), HBA.out.block k (by omega)]
                exact HBB.out.block k hk
            have HV6 := Lib.hid hV6
            have HROW6 := Lib.hid hrow6
            have HBB6 := Lib.hid hbb6
            clear hW6 hV6 hlb hrow6 hbb6 pz pc pl
            go_wp2
            go_tidy
            refine ⟨⟨g + 1, l ++ [(g : Int)], _, rfl, hg, HV6.out, HROW6.out, ?_, fun y hy => ?_, by have := HLL.out; simp; omega, HBB6.out⟩, by simp [intOf]; omega⟩
            · rw [List.pairwise_append]
              exact ⟨HRISE.out, by simp, fun p hp q hq => by simp at hq; subst hq; exact (HRG.out p hp).2⟩
            · rcases List.mem_append.1 hy with h1 | h1
              · have := HRG.out y h1; omega
              · simp at h1; subst h1; omega
          · have hd : decide ((g : Int) ∈ x.1) = false := decide_eq_false hin
            rw [hd] at h38
            have H38 := Lib.hid h38
            clear h38 hin hd
            go_wp2_with (first | (go_at_call 38; refine H38.out.mono ?_; rintro e w2 ⟨rfl, rfl⟩) | fail)
            go_tidy
            exact ⟨⟨g + 1, l, lv, rfl, hg, HV.out, HROW.out, HRISE.out, fun y hy => by have := HRG.out y hy; omega, by have := HLL.out; omega, HBB.out⟩, by simp [intOf]; omega⟩
        · obtain rfl : g = 4 := by omega
          have hCw := HCn.out.below HBB.out
          have HCW := Lib.hid hCw
          obtain ⟨la, lc, hlv⟩ := owns_slice' HROW.out
          subst hlv
          have q2 : wr.cell? ⟨b, 2, none⟩ = some (.slice la l.length lc) := HV.out.cell (j := 2) rfl
          have ql := HV.out.lt
          have hBlow := HCn.out.low1
          have hbw : Below W1.heap.size W1 wr := HB.out.trans (HBB.out.mono hBlow)
          have HBW := Lib.hid hbw
          have HXL := Lib.hid hlt
          clear hCw hbw hlt
          rcases Nat.eq_zero_or_pos l.length with h0 | h0
          · obtain rfl : l = [] := List.eq_nil_of_length_eq_zero h0
            go_wp2
            go_tidy
            exact ⟨⟨n + 1, A, av, rfl, HXL.out, HCW.out, HM.out.skip, HBW.out⟩, by have := HXL.out; simp [intOf]; omega⟩
          · have hlp : (0 : Int) < (l.length : Int) := by omega
            have hl4 : l.length ≤ 4 := HLL.out
            go_upto_region 12 with fail
            obtain ⟨aa, ac, hav⟩ := owns_slice' HCW.out.all
            have hA20 : A.length ≤ 20 := by have h1 := HM.out.few; rw [List.length_map] at h1; omega
            clear q2 ql
            have hS0 : TelS c 4 b av [.int .i64 (idN n).s, .int .i64 (idN n).q, .slice la l.length lc, .int .u64 0, .int .u64 0, .int .u64 0, .int .u64 0] wr.drew := ⟨HCW.out.box.cell (j := 4) rfl, HCW.out.box.lt, HV.out.keep (Below.refl _ _).drew HV.out.lt⟩
            refine wp_region_noPanic ?_
            refine till_start (TelS c 4 b av [.int .i64 (idN n).s, .int .i64 (idN n).q, .slice la l.length lc, .int .u64 0, .int .u64 0, .int .u64 0, .int .u64 0]) 10 (by kernel_rfl) ?_
            have hS := hS0
            show AnyTill _ _ _ _ _ _ 11 (Array.replicate 11 false) _ _
            refine till_take 0 (v := ?_) rfl (by kernel_rfl) (fun _ _ _ h => h) (Or.inl ⟨by rfl, ?_⟩) hS ?_
            rotate_left
            focus (intro w' hSw; obtain ⟨q1, ql, hN⟩ := hSw; have r0 := hN.cell (j := 0) rfl; have r1 := hN.cell (j := 1) rfl; have r2 := hN.cell (j := 2) rfl; have r3 := hN.cell (j := 3) rfl; have r4 := hN.cell (j := 4) rfl; have r5 := hN.cell (j := 5) rfl; have r6 := hN.cell (j := 6) rfl; have nl := hN.lt; clear hN; go_simp; try (with_reducible rfl))
            try simp only [Act.put, List.setIfInBounds_toArray, List.set_cons_zero, List.set_cons_succ]
            refine till_take 1 (v := ?_) rfl (by kernel_rfl) (fun _ _ _ h => h) (Or.inl ⟨by rfl, ?_⟩) hS ?_
            rotate_left
            focus (intro w' hSw; obtain ⟨q1, ql, hN⟩ := hSw; have r0 := hN.cell (j := 0) rfl; have r1 := hN.cell (j := 1) rfl; have r2 := hN.cell (j := 2) rfl; have r3 := hN.cell (j := 3) rfl; have r4 := hN.cell (j := 4) rfl; have r5 := hN.cell (j := 5) rfl; have r6 := hN.cell (j := 6) rfl; have nl := hN.lt; clear hN; go_simp; try (with_reducible rfl))
            try simp only [Act.put, List.setIfInBounds_toArray, List.set_cons_zero, List.set_cons_succ]
            refine till_take 2 (v := ?_) rfl (by kernel_rfl) (fun _ _ _ h => h) (Or.inl ⟨by rfl, ?_⟩) hS ?_
            rotate_left
            focus (intro w' hSw; obtain ⟨q1, ql, hN⟩ := hSw; have r0 := hN.cell (j := 0) rfl; have r1 := hN.cell (j := 1) rfl; have r2 := hN.cell (j := 2) rfl; have r3 := hN.cell (j := 3) rfl; have r4 := hN.cell (j := 4) rfl; have r5 := hN.cell (j := 5) rfl; have r6 := hN.cell (j := 6) rfl; have nl := hN.lt; clear hN; go_simp; try (with_reducible rfl))
            try simp only [Act.put, List.setIfInBounds_toArray, List.set_cons_zero, List.set_cons_succ]
            refine till_take 3 (v := ?_) rfl (by kernel_rfl) (fun _ _ _ h => h) (Or.inl ⟨by rfl, ?_⟩) hS ?_
            rotate_left
            focus (intro w' hSw; obtain ⟨q1, ql, hN⟩ := hSw; have r0 := hN.cell (j := 0) rfl; have r1 := hN.cell (j := 1) rfl; have r2 := hN.cell (j := 2) rfl; have r3 := hN.cell (j := 3) rfl; have r4 := hN.cell (j := 4) rfl; have r5 := hN.cell (j := 5) rfl; have r6 := hN.cell (j := 6) rfl; have nl := hN.lt; clear hN; go_simp; try (with_reducible rfl))
            try simp only [Act.put, List.setIfInBounds_toArray, List.set_cons_zero, List.set_cons_succ]
            refine till_take 4 (v := ?_) rfl (by kernel_rfl) (fun _ _ _ h => h) (Or.inl ⟨by rfl, ?_⟩) hS ?_
            rotate_left
            focus (intro w' hSw; obtain ⟨q1, ql, hN⟩ := hSw; have r0 := hN.cell (j := 0) rfl; have r1 := hN.cell (j := 1) rfl; have r2 := hN.cell (j := 2) rfl; have r3 := hN.cell (j := 3) rfl; have r4 := hN.cell (j := 4) rfl; have r5 := hN.cell (j := 5) rfl; have r6 := hN.cell (j := 6) rfl; have nl := hN.lt; clear hN; go_simp; try (with_reducible rfl))
            try simp only [Act.put, List.setIfInBounds_toArray, List.set_cons_zero, List.set_cons_succ]
            refine till_take 5 (v := ?_) rfl (by kernel_rfl) (fun _ _ _ h => h) (Or.inl ⟨by rfl, ?_⟩) hS ?_
            rotate_left
            focus (intro w' hSw; obtain ⟨q1, ql, hN⟩ := hSw; have r0 := hN.cell (j := 0) rfl; have r1 := hN.cell (j := 1) rfl; have r2 := hN.cell (j := 2) rfl; have r3 := hN.cell (j := 3) rfl; have r4 := hN.cell (j := 4) rfl; have r5 := hN.cell (j := 5) rfl; have r6 := hN.cell (j := 6) rfl; have nl := hN.lt; clear hN; go_simp; try (with_reducible rfl))
            try simp only [Act.put, List.setIfInBounds_toArray, List.set_cons_zero, List.set_cons_succ]
            refine till_ready [6] (by kernel_rfl) (TillReady.cons 6 rfl (fun K hK => ?_) TillReady.nil)
            go_simp
            have hb8 : Below wr.heap.size wr (wr.drew.alloc (.cells #[.int .i64 (idN n).s, .int .i64 (idN n).q, .slice la l.length lc, .int .u64 0, .int .u64 0, .int .u64 0, .int .u64 0] 55)) := (Below.refl _ _).drew.alloc (Nat.le_refl _) _
            have hN8 := VarAt.new wr.drew 55 [.int .i64 (idN n).s, .int .i64 (idN n).q, .slice la l.length lc, .int .u64 0, .int .u64 0, .int .u64 0, .int .u64 0]
            have hS8 : TelS c 4 b av [.int .i64 (idN n).s, .int .i64 (idN n).q, .slice la l.length lc, .int .u64 0, .int .u64 0, .int .u64 0, .int .u64 0] (wr.drew.alloc (.cells #[.int .i64 (idN n).s, .int .i64 (idN n).q, .slice la l.length lc, .int .u64 0, .int .u64 0, .int .u64 0, .int .u64 0] 55)) := ⟨by rw [hb8.cell (p := ⟨c, 4, none⟩) hS.2.1]; exact hS.1, Nat.lt_of_lt_of_le hS.2.1 hb8.size, hS.2.2.alloc _⟩
            clear hS
            have hS := hS8
            refine (Hid.out hK) _ _ (fun _ => hS) ?_
            try simp only [Act.put, List.setIfInBounds_toArray, List.set_cons_zero, List.set_cons_succ]
            refine till_ready [7] (by kernel_rfl) (TillReady.cons 7 rfl (fun K hK => ?_) TillReady.nil)
            refine step_append_fresh (wr.drew.alloc (.cells #[.int .i64 (idN n).s, .int .i64 (idN n).q, .slice la l.length lc, .int .u64 0, .int .u64 0, .int .u64 0, .int .u64 0] 55)) rfl (.tmp 56) (.tmp 58) 47 rfl W1.heap.size 55 (.agg #[.int .i64 0, .int .i64 0, .slice none 0 0, .int .u64 0, .int .u64 0, .int .u64 0, .int .u64 0]) 7 72 und47 inf55 rfl (by decide) av A.length (A.flatMap encR) (by rfl) ?hrow ⟨wr.heap.size, 0, none⟩ 1 1 [.int .i64 (idN n).s, .int .i64 (idN n).q, .slice la l.length lc, .int .u64 0, .int .u64 0, .int .u64 0, .int .u64 0] (by go_simp) rfl ?hnew ?hone (by unfold maxLen; omega) (by omega) ?hB ?_
            case hrow => exact own_belowW HCW.out.all hb8
            case hnew => intro j u hu; rw [Go.WideShapes.add_plain, Nat.zero_add]; exact hN8.cell hu
            case hone => intro u hu; simp only [List.mem_cons, List.not_mem_nil, or_false] at hu; rcases hu with rfl | rfl | rfl | rfl | rfl | rfl | rfl <;> rfl
            case hB => have := HCW.out.low1; have := hb8.size; omega
            intro v9 w9 hT9 hg9 hvv9
            obtain ⟨a9, c9, hv9⟩ := owns_slice' hT9
            subst hv9
            have hcz : some c ≠ av.ownBlock := fun e => by
              have := HCW.out.sep 4 5 c (.inr (.inl ⟨rfl, rfl⟩)) (.inr (.inr (.inl ⟨rfl, .inl e.symm⟩))); omega
            have hbz : some b ≠ av.ownBlock := fun e => by
              have := (HCn.out.all.lt b e.symm).2; have := HBD.out; omega
            have hc9 := (HCW.out.box.keep hb8 HCW.out.box.lt).grown hg9 hcz
            have hn9 := hS.2.2.grown hg9 hbz
            clear hS
            have hS : TelS c 4 b av [.int .i64 (idN n).s, .int .i64 (idN n).q, .slice la l.length lc, .int .u64 0, .int .u64 0, .int .u64 0, .int .u64 0] w9 := ⟨hc9.cell (j := 4) rfl, hc9.lt, hn9⟩
            refine (Hid.out hK) _ _ (fun _ => hS) ?_
            try simp only [Act.put, List.setIfInBounds_toArray, List.set_cons_zero, List.set_cons_succ]
            refine till_take 8 (v := ?_) rfl (by kernel_rfl) (fun _ _ _ h => h) (Or.inl ⟨by rfl, ?_⟩) hS ?_
            rotate_left
            focus (intro w' hSw; obtain ⟨q1, ql, hN⟩ := hSw; have r0 := hN.cell (j := 0) rfl; have r1 := hN.cell (j := 1) rfl; have r2 := hN.cell (j := 2) rfl; have r3 := hN.cell (j := 3) rfl; have r4 := hN.cell (j := 4) rfl; have r5 := hN.cell (j := 5) rfl; have r6 := hN.cell (j := 6) rfl; have nl := hN.lt; clear hN; go_simp; try (with_reducible rfl))
            try simp only [Act.put, List.setIfInBounds_toArray, List.set_cons_zero, List.set_cons_succ]
            refine till_take 9 (v := ?_) rfl (by kernel_rfl) (fun _ _ _ h => h) (Or.inl ⟨by rfl, ?_⟩) hS ?_
            rotate_left
            focus (intro w' hSw; obtain ⟨q1, ql, hN⟩ := hSw; have r0 := hN.cell (j := 0) rfl; have r1 := hN.cell (j := 1) rfl; have r2 := hN.cell (j := 2) rfl; have r3 := hN.cell (j := 3) rfl; have r4 := hN.cell (j := 4) rfl; have r5 := hN.cell (j := 5) rfl; have r6 := hN.cell (j := 6) rfl; have nl := hN.lt; clear hN; go_simp; try (with_reducible rfl))
            try simp only [Act.put, List.setIfInBounds_toArray, List.set_cons_zero, List.set_cons_succ]
            refine till_ready [10] (by kernel_rfl) (TillReady.cons 10 rfl (fun K hK => ?_) TillReady.nil)
            have pz := hc9.free 4
            have pc : w9.cell? ⟨c, 4, none⟩ = some av := hS.1
            have pl := hc9.lt
            go_simp
            refine (Hid.out hK) _ _ (fun h => absurd rfl h) ?_
            refine till_done (by kernel_rfl) ?_
            refine NoPanic.normal ?_
            have hwo : Below wo.heap.size wo (wr.drew.alloc (.cells #[.int .i64 (idN n).s, .int .i64 (idN n).q, .slice la l.length lc, .int .u64 0, .int .u64 0, .int .u64 0, .int .u64 0] 55)) := HBB.out.trans (hb8.mono HBB.out.size)
            obtain ⟨hA1, hA2⟩ := HCn.out.pushA (⟨idN n, l, fun _ => 0⟩, .slice la l.length lc) hwo (own_lower (own_belowW HROW.out hb8) (by have := HBD.out; omega)) hT9 hg9 hvv9
            have HA1 := Lib.hid hA1
            have HA2 := Lib.hid (HB.out.trans hA2)
            have HM2 := Lib.hid (HM.out.push (by omega) HRISE.out (fun x hx => by have := HRG.out x hx; omega))
            clear hA1 hA2 hS hS8 hN8 hb8 hT9 hg9 hvv9 hcz hbz hc9 hn9 pz pc pl hwo hS0
            go_wp2
            go_tidy
            exact ⟨⟨n + 1, _, _, rfl, HXL.out, HA1.out, by rw [List.map_append]; exact HM2.out, HA2.out⟩, by have := HXL.out; simp [intOf]; omega⟩
    · obtain rfl : n = gs.length := by omega
      have hup : BInv (cm0 A av) 0 := ⟨HM.out.upto hl, fun h hh => by omega, fun h hh => by omega, fun _ => ⟨rfl, rfl⟩⟩
      have HUP := Lib.hid hup
      clear hup hn hge
      go_wp2
      go_loopw [10] (fun i wr => BegRel3 c W1.heap.size W1 i wr) (fun i _ => 4 - (intOf i).toNat)
      case atStart => exact ⟨0, _, rfl, by omega, HCn.out, HUP.out, HB.out⟩
      case round =>
        clear HCn HM HB HUP
        obtain ⟨g, m, rfl, hg4, hC, hI, hb⟩ := hrel
        obtain ⟨wo, hwo⟩ : ∃ x, x = wr := ⟨_, rfl⟩
        subst hwo
        have HCg := Lib.hid hC
        have HIg := Lib.hid hI
        have HB := Lib.hid hb
        clear hC hI hb
        rcases Nat.lt_or_ge g 4 with hg | hg
        · have hgI : (g : Int) < 4 := by omega
          have hg0 : ¬ (g : Int) < 0 := by omega
          go_upto_region 16 with fail
          refine wp_region_noPanic ?_
          refine till_start ((fun W => VarAt W c 52 (encC m))) 7 (by kernel_rfl) ?_
          have hS := HCg.out.box.keep (Below.refl wo.heap.size wo).drew HCg.out.box.lt
          show AnyTill _ _ _ _ _ _ 8 (Array.replicate 8 false) _ _
          refine till_take 0 (v := ?_) rfl (by kernel_rfl) (fun _ _ _ h => h) (Or.inl ⟨by rfl, ?_⟩) hS ?_
          rotate_left
          focus (intro w' hSw; have q1 := hSw.cell (encC_at m hg).1; have ql := hSw.lt; clear hSw; go_simp; try (with_reducible rfl))
          try simp only [Act.put, List.setIfInBounds_toArray, List.set_cons_zero, List.set_cons_succ]
          refine till_take 1 (v := ?_) rfl (by kernel_rfl) (fun _ _ _ h => h) (Or.inl ⟨by rfl, ?_⟩) hS ?_
          rotate_left
          focus (intro w' hSw; have q1 := hSw.cell (encC_at m hg).1; have ql := hSw.lt; clear hSw; go_simp; try (with_reducible rfl))
          try simp only [Act.put, List.setIfInBounds_toArray, List.set_cons_zero, List.set_cons_succ]
          refine till_take 2 (v := ?_) rfl (by kernel_rfl) (fun _ _ _ h => h) (Or.inl ⟨by rfl, ?_⟩) hS ?_
          rotate_left
          focus (intro w' hSw; have q1 := hSw.cell (encC_at m hg).1; have ql := hSw.lt; clear hSw; go_simp; try (with_reducible rfl))
          try simp only [Act.put, List.setIfInBounds_toArray, List.set_cons_zero, List.set_cons_succ]
          refine till_take 4 (v := ?_) rfl (by kernel_rfl) (fun _ _ _ h => h) (Or.inl ⟨by rfl, ?_⟩) hS ?_
          rotate_left
          focus (intro w' hSw; have q1 := hSw.cell (encC_at m hg).1; have ql := hSw.lt; clear hSw; go_simp; try (with_reducible rfl))
          try simp only [Act.put, List.setIfInBounds_toArray, List.set_cons_zero, List.set_cons_succ]
          refine till_take 5 (v := ?_) rfl (by kernel_rfl) (fun _ _ _ h => h) (Or.inl ⟨by rfl, ?_⟩) hS ?_
          rotate_left
          focus (intro w' hSw; have q1 := hSw.cell (encC_at m hg).1; have ql := hSw.lt; clear hSw; go_simp; try (with_reducible rfl))
          try simp only [Act.put, List.setIfInBounds_toArray, List.set_cons_zero, List.set_cons_succ]
          refine till_ready [3] (by kernel_rfl) (TillReady.cons 3 rfl (fun K hK => ?_) TillReady.nil)
          go_simp
          refine (c10 g _).mono ?_
          rintro e w5 (⟨hno, -, -⟩ | ⟨-, rfl, hw5⟩)
          · exact absurd ⟨by omega, by omega⟩ hno
          have hb5 : Below wo.heap.size wo w5 := by rw [hw5]; exact (Below.refl _ _).drew.alloc (Nat.le_refl _) _
          have hx5 : VarAt w5 wo.heap.size 78 [.int .i64 g, .int .u64 0, .slice none 0 0] := by rw [hw5]; exact VarAt.new wo.drew 78 _
          have hc5 := HCg.out.box.keep hb5 HCg.out.box.lt
          clear hw5
          clear hS
          have hS := hc5
          refine (Hid.out hK) _ _ (fun _ => hS) ?_
          try simp only [Act.put, List.setIfInBounds_toArray, List.set_cons_zero, List.set_cons_succ]
          refine till_take 6 (v := ?_) rfl (by kernel_rfl) (fun _ _ _ h => h) (Or.inl ⟨by rfl, ?_⟩) hS ?_
          rotate_left
          focus (intro w' hSw; have q1 := hSw.cell (encC_at m hg).1; have ql := hSw.lt; clear hSw; go_simp; try (with_reducible rfl))
          try simp only [Act.put, List.setIfInBounds_toArray, List.set_cons_zero, List.set_cons_succ]
          refine till_ready [7] (by kernel_rfl) (TillReady.cons 7 rfl (fun K hK => ?_) TillReady.nil)
          have pz := hc5.free g
          have pc := hc5.cell (encC_at m hg).1
          have pl := hc5.lt
          go_simp
          refine (Hid.out hK) _ _ (fun h => absurd rfl h) ?_
          refine till_done (by kernel_rfl) ?_
          refine NoPanic.normal ?_
          generalize hW6 : World.setCell w5 _ _ = w6
          obtain ⟨hq1, hq2⟩ := HCg.out.newQ (by omega) hb5 hx5 (Nat.le_refl _)
          rw [hW6] at hq1 hq2
          have hi2 := HIg.out.newQ (x := wo.heap.size)
          obtain ⟨m1, hm1⟩ : ∃ m1 : CM, m1 = { m with x := upd m.x g wo.heap.size, p := upd m.p g (.pointer (some ⟨wo.heap.size, 0, none⟩)), S := upd m.S g ⟨0, []⟩, M := upd m.M g [], v := upd m.v g (.slice none 0 0) } := ⟨_, rfl⟩
          have hS1 : m1.S g = ⟨0, []⟩ := by rw [hm1]; exact upd_same _ _ _
          rw [← hm1] at hq1 hi2
          have HQ1 := Lib.hid hq1
          have HB6 := Lib.hid (HB.out.trans hq2)
          have HI2 := Lib.hid hi2
          have HS1 := Lib.hid hS1
          obtain ⟨aa, ac, hav⟩ := owns_slice' hq1.all
          have f4 := hq1.box.cell (j := 4) rfl
          rw [hav] at f4
          have fl := hq1.box.lt
          have hA20 : m1.A.length ≤ 20 := by have := hi2.upto.small; unfold allOf at this; rw [List.length_map] at this; exact this
          have hmk := makeB m1.A.length (by omega)
          have HAV := Lib.hid hav
          clear hS pz pc pl hq1 hq2 hi2 hm1 hS1 hb5 hx5 hc5 hW6 hav
          go_upto_region 18 with fail
          obtain ⟨d, hdd⟩ : ∃ d, d = w6.heap.size := ⟨_, rfl⟩
          rw [← hdd]
          generalize hW7 : World.alloc w6 _ = w7
          have hb7 : Below w6.heap.size w6 w7 := by rw [← hW7]; exact (Below.refl _ _).alloc (Nat.le_refl _) _
          have hd7 : VarAt w7 d 4 ((List.replicate m1.A.length false).map Value.bool) := by
            have := VarAt.new w6 4 ((List.replicate m1.A.length false).map Value.bool)
            rw [← hW7, hdd]
            simpa [List.map_replicate] using this
          have HM0 := Lib.hid (BMid.start (N := m1.A.length) (ol := (o g).length) HQ1.out HI2.out HS1.out hb7 hd7 (by omega) rfl)
          have HB7 := Lib.hid (HB6.out.trans (hb7.mono HQ1.out.low1))
          have hog := HO.out.row g hg
          obtain ⟨oa, oc, hov, ho1, ho2, -⟩ := _root_.id hog
          unfold maxLen at ho2
          have HOV := Lib.hid hov
          have hol2 := HOL.out g hg
          clear hW7 hb7 hd7 hdd f4 fl hmk hov hog HI2 HS1 HQ1 HB6
          generalize hN : m1.A.length = N at *
          generalize hAV : m1.av = av1 at *
          clear hN hAV
          go_wp2
          go_loopw [12] (fun i wr => BegRel4 c W1.heap.size g d N (o g).length av1 W1 i wr) (fun i _ => (N + (o g).length) - (intOf i).toNat)
          case atStart => exact ⟨0, _, _, rfl, Nat.zero_le _, HM0.out, HB7.out⟩
          case round =>
            clear HM0 HB7
            obtain ⟨n, m2, D, rfl, hn, hM, hb⟩ := hrel
            have HM := Lib.hid hM
            have HB := Lib.hid hb
            obtain ⟨la, lc, hlv⟩ := owns_slice' hM.at_.all
            have hlv' : av1 = .slice aa N ac := HAV.out
            have f4 : wr.cell? ⟨c, 4, none⟩ = some (.slice aa N ac) := by rw [← hlv', ← hM.av]; exact hM.at_.box.cell (j := 4) rfl
            have fl := hM.at_.box.lt
            have hv0 := HV1.out.keep hb HV1.out.lt
            have fo : wr.cell? ⟨b0, g, none⟩ = some (.slice oa (o g).length oc) := by rw [← HOV.out]; exact hv0.cell (encO_at ov hg)
            have fol := hv0.lt
            clear hv0 hlv hlv' hM hb
            rcases Nat.lt_or_ge n (N + (o g).length) with hlt | hge
            · have hnI : (n : Int) < (N : Int) + ((o g).length : Int) := by omega
              go_upto_region 19 with fail
              go_quiet (fail)
              have HMD := Lib.hid (HM.out.below (drewN_below wr nq))
              have HBD2 := Lib.hid (HB.out.trans ((drewN_below wr nq).mono HM.out.at_.low1))
              clear f4 fl fo fol HM HB
              generalize wr.drewN nq = wn at HMD HBD2 ⊢
              have hlv' : av1 = .slice aa N ac := HAV.out
              have f4 : wn.cell? ⟨c, 4, none⟩ = some (.slice aa N ac) := by rw [← hlv', ← HMD.out.av]; exact HMD.out.at_.box.cell (j := 4) rfl
              have fl := HMD.out.at_.box.lt
              have hv0 := HV1.out.keep HBD2.out HV1.out.lt
              have fo : wn.cell? ⟨b0, g, none⟩ = some (.slice oa (o g).length oc) := by rw [← HOV.out]; exact hv0.cell (encO_at ov hg)
              have fol := hv0.lt
              clear hv0 hlv'
              rcases Nat.lt_or_ge n (o g).length with hno | hno
              · have hnoI : (n : Int) < ((o g).length : Int) := by omega
                obtain ⟨x, hx⟩ : ∃ x, (o g)[n]? = some x := ⟨_, List.getElem?_eq_getElem hno⟩
                obtain ⟨hx0, hx1⟩ := HO.out.u8 g hg x (List.mem_of_getElem? hx)
                have hbw : Below w.heap.size w wn := HB1.out.trans (HBD2.out.mono HB1.out.size)
                obtain ⟨ob, oo, ocap, hoe, hobl, hoc⟩ := ((HO.out.below hbw).row g hg).cells hx
                rw [hoe] at HOV
                have hoe2 : Value.slice (some ⟨ob, oo, none⟩) (o g).length ocap = .slice oa (o g).length oc := HOV.out
                cases hoe2
                have o0 := hoc 0 _ rfl
                rw [Nat.mul_one, Nat.add_zero] at o0
                clear hoc hbw hx hoe
                go_upto_region 23 with fail
                go_quiet (fail)
                obtain ⟨k, hkx⟩ : ∃ k : Nat, x % max (N : Int) 1 = k := ⟨(x % max (N : Int) 1).toNat, by rw [Int.toNat_of_nonneg (Int.emod_nonneg _ (by omega))]⟩
                rw [hkx]
                have hk : n < (o g).length ∨ k + (o g).length = n := .inl hno
                have HMD2 := Lib.hid (HMD.out.below (drewN_below wn nq))
                have HBD3 := Lib.hid (HBD2.out.trans ((drewN_below wn nq).mono HMD.out.at_.low1))
                clear o0 hobl f4 fl fo fol hkx hx0 hx1 hnoI HMD HBD2
                generalize wn.drewN nq = wn at HMD2 HBD3 ⊢
                have HK := Lib.hid hk
                have hlv' : av1 = .slice aa N ac := HAV.out
                have f4 : wn.cell? ⟨c, 4, none⟩ = some (.slice aa N ac) := by rw [← hlv', ← HMD2.out.av]; exact HMD2.out.at_.box.cell (j := 4) rfl
                have fl := HMD2.out.at_.box.lt
                clear hk
                rcases Nat.lt_or_ge k N with hkN | hkN
                · have hkI : (k : Int) < (N : Int) := by omega
                  have hkf : decide ((N : Int) ≤ (k : Int)) = false := decide_eq_false (by omega)
                  obtain ⟨y, hy⟩ : ∃ y, m2.A[k]? = some y := ⟨_, List.getElem?_eq_getElem (by rw [HMD2.out.len]; exact hkN)⟩
                  have hDl : D.length = N := by
                    have h1 := HMD2.out.mid.beg.len
                    unfold allOf at h1
                    rw [List.length_map, HMD2.out.len] at h1; exact h1
                  obtain ⟨bd, hbd⟩ : ∃ b, D[k]? = some b := ⟨_, List.getElem?_eq_getElem (by rw [hDl]; exact hkN)⟩
                  have d0 : wn.cell? ⟨d, k, none⟩ = some (.bool bd) := HMD2.out.done.cell (by rw [List.getElem?_map, hbd]; rfl)
                  have dl := HMD2.out.done.lt
                  obtain ⟨lk, lcap, hle, hlkl, hlcap⟩ := row_addr HMD2.out.at_.all (by rw [HMD2.out.len]; omega)
                  have hle2 : Value.slice (some ⟨lk, 0, none⟩) N lcap = .slice aa N ac := by rw [← hlv', ← HMD2.out.av, hle, HMD2.out.len]
                  have haa : aa = some ⟨lk, 0, none⟩ := by cases hle2; rfl
                  rw [haa] at f4
                  obtain ⟨y0, y1, y2, -, -, -, -, yl⟩ := CellsR.of (by have := HMD2.out.at_.all; rw [hle] at this; exact this) hy
                  have hym := List.mem_of_getElem? hy
                  have h38 := c38 (owns_rowG (HMD2.out.at_.gs y hym)) g
                  have HY := Lib.hid hy
                  have HBD4 := Lib.hid hbd
                  have HLE := Lib.hid hle
                  have HAA := Lib.hid haa
                  have HKN := Lib.hid hkN
                  clear hle2 haa hlv' hy hbd hDl hle hkN
                  cases bd with
                  | true =>
                    have HSK := Lib.hid (HMD2.out.skip fun k' a hk' ha _ => by
                      have h3 := HK.out
                      obtain rfl : k' = k := by omega
                      exact HBD4.out)
                    clear h38 hym
                    go_wp2
                    go_tidy
                    exact ⟨⟨n + 1, m2, D, rfl, by omega, HSK.out, HBD3.out⟩, by simp [intOf]; omega⟩
                  | false =>
                    by_cases hin : (g : Int) ∈ y.1.groups
                    · have hd : decide ((g : Int) ∈ y.1.groups) = true := decide_eq_true hin
                      rw [hd] at h38
                      have H38 := Lib.hid h38
                      have HIN := Lib.hid hin
                      clear h38 hin hd hym
                      go_upto_region 25 with (first | (go_at_call 38; refine H38.out.mono ?_; rintro e w2 ⟨rfl, hw2⟩; subst hw2) | fail)
                      have pz := HMD2.out.done.free k
                      go_upto_region 26 with fail
                      generalize hW3 : World.setCell w2 _ _ = w3
                      have hw3 : w3 = w2.setCell ⟨d, k, none⟩ (.bool true) := hW3.symm
                      obtain ⟨c3, -, b3⟩ := HMD2.out.mark hw3
                      have hbg := HMD2.out.begins hg (by omega) HY.out HBD4.out HIN.out
                      have hym := List.mem_of_getElem? HY.out
                      have hgl : y.1.groups.length ≤ 1000 := by have := may_len (HMD2.out.mid.may y.1 (List.mem_map_of_mem hym)); omega
                      have hMl : (m2.M g).length ≤ 1000 := by
                        have h1 := (c3.q g (by omega)).len
                        have h2 := HMD2.out.cnt
                        have h3 : (D.filter id).length ≤ D.length := List.length_filter_le _ _
                        have h4 := HMD2.out.mid.beg.len
                        unfold allOf at h4
                        rw [List.length_map, HMD2.out.len] at h4
                        omega
                      have hdr : Below w3.heap.size w3 w3.drew := (Below.refl _ _).drew
                      have hgx : 0 < y.1.groups.length → y.2.ownBlock ≠ some (m2.x g) := fun _ e => by
                        have := c3.sep 5 g (m2.x g) (.inr (.inr (.inl ⟨rfl, .inr ⟨y, hym, e⟩⟩))) (.inl ⟨by omega, .inl (.inl rfl)⟩)
                        omega
                      have h11 := c11 ((c3.q g (by omega)).below hdr) y.1.id (owns_rowG ((c3.below hdr).gs y hym)) hgx hgl hMl
                      rw [hbg] at h11
                      unfold pairV at h11
                      simp only at h11
                      have hle3 : m2.av = .slice (some ⟨lk, 0, none⟩) N lcap := by rw [HLE.out, HMD2.out.len]
                      have hS0 : BgS c g lk (k * 7) (.pointer (some ⟨m2.x g, 0, none⟩)) (.slice (some ⟨lk, 0, none⟩) N lcap) y w3.drew := by
                        have := BgS.of (c3.below hdr) (Nat.lt_succ_self g) HLE.out HY.out
                        rw [hle3] at this; exact this
                      have H11 := Lib.hid h11
                      have C3 := Lib.hid c3
                      have HW3 := Lib.hid hw3
                      have HLE3 := Lib.hid hle3
                      clear pz hW3 hw3 c3 b3 hbg hym hgl hMl hdr hgx h11 hle3 y0 y1 y2 yl d0 dl f4 fl hlkl H38
                      refine wp_region_noPanic ?_
                      refine till_start (BgS c g lk (k * 7) (.pointer (some ⟨m2.x g, 0, none⟩)) (.slice (some ⟨lk, 0, none⟩) N lcap) y) 27 (by kernel_rfl) ?_
                      have hS := hS0
                      show AnyTill _ _ _ _ _ _ 28 (Array.replicate 28 false) _ _
                      refine till_take 0 (v := ?_) rfl (by kernel_rfl) (fun _ _ _ h => h) (Or.inl ⟨by rfl, ?_⟩) hS ?_
                      rotate_left
                      focus (intro w' hSw; obtain ⟨q1, q2, ql, p0, p1, p2, -, -, -, -, pl⟩ := hSw; go_simp; try (with_reducible rfl))
                      try simp only [Act.put, List.setIfInBounds_toArray, List.set_cons_zero, List.set_cons_succ]
                      refine till_take 1 (v := ?_) rfl (by kernel_rfl) (fun _ _ _ h => h) (Or.inl ⟨by rfl, ?_⟩) hS ?_
                      rotate_left
                      focus (intro w' hSw; obtain ⟨q1, q2, ql, p0, p1, p2, -, -, -, -, pl⟩ := hSw; go_simp; try (with_reducible rfl))
                      try simp only [Act.put, List.setIfInBounds_toArray, List.set_cons_zero, List.set_cons_succ]
                      refine till_take 2 (v := ?_) rfl (by kernel_rfl) (fun _ _ _ h => h) (Or.inl ⟨by rfl, ?_⟩) hS ?_
                      rotate_left
                      focus (intro w' hSw; obtain ⟨q1, q2, ql, p0, p1, p2, -, -, -, -, pl⟩ := hSw; go_simp; try (with_reducible rfl))
                      try simp only [Act.put, List.setIfInBounds_toArray, List.set_cons_zero, List.set_cons_succ]
                      refine till_take 3 (v := ?_) rfl (by kernel_rfl) (fun _ _ _ h => h) (Or.inl ⟨by rfl, ?_⟩) hS ?_
                      rotate_left
                      focus (intro w' hSw; obtain ⟨q1, q2, ql, p0, p1, p2, -, -, -, -, pl⟩ := hSw; go_simp; try (with_reducible rfl))
                      try simp only [Act.put, List.setIfInBounds_toArray, List.set_cons_zero, List.set_cons_succ]
                      refine till_take 4 (v := ?_) rfl (by kernel_rfl) (fun _ _ _ h => h) (Or.inl ⟨by rfl, ?_⟩) hS ?_
                      rotate_left
                      focus (intro w' hSw; obtain ⟨q1, q2, ql, p0, p1, p2, -, -, -, -, pl⟩ := hSw; go_simp; try (with_reducible rfl))
                      try simp only [Act.put, List.setIfInBounds_toArray, List.set_cons_zero, List.set_cons_succ]
                      refine till_take 5 (v := ?_) rfl (by kernel_rfl) (fun _ _ _ h => h) (Or.inl ⟨by rfl, ?_⟩) hS ?_
                      rotate_left
                      focus (intro w' hSw; obtain ⟨q1, q2, ql, p0, p1, p2, -, -, -, -, pl⟩ := hSw; go_simp; try (with_reducible rfl))
                      try simp only [Act.put, List.setIfInBounds_toArray, List.set_cons_zero, List.set_cons_succ]
                      refine till_take 6 (v := ?_) rfl (by kernel_rfl) (fun _ _ _ h => h) (Or.inl ⟨by rfl, ?_⟩) hS ?_
                      rotate_left
                      focus (intro w' hSw; obtain ⟨q1, q2, ql, p0, p1, p2, -, -, -, -, pl⟩ := hSw; go_simp; try (with_reducible rfl))
                      try simp only [Act.put, List.setIfInBounds_toArray, List.set_cons_zero, List.set_cons_succ]
                      refine till_take 7 (v := ?_) rfl (by kernel_rfl) (fun _ _ _ h => h) (Or.inl ⟨by rfl, ?_⟩) hS ?_
                      rotate_left
                      focus (intro w' hSw; obtain ⟨q1, q2, ql, p0, p1, p2, -, -, -, -, pl⟩ := hSw; go_simp; try (with_reducible rfl))
                      try simp only [Act.put, List.setIfInBounds_toArray, List.set_cons_zero, List.set_cons_succ]
                      refine till_take 8 (v := ?_) rfl (by kernel_rfl) (fun _ _ _ h => h) (Or.inl ⟨by rfl, ?_⟩) hS ?_
                      rotate_left
                      focus (intro w' hSw; obtain ⟨q1, q2, ql, p0, p1, p2, -, -, -, -, pl⟩ := hSw; go_simp; try (with_reducible rfl))
                      try simp only [Act.put, List.setIfInBounds_toArray, List.set_cons_zero, List.set_cons_succ]
                      refine till_take 9 (v := ?_) rfl (by kernel_rfl) (fun _ _ _ h => h) (Or.inl ⟨by rfl, ?_⟩) hS ?_
                      rotate_left
                      focus (intro w' hSw; obtain ⟨q1, q2, ql, p0, p1, p2, -, -, -, -, pl⟩ := hSw; go_simp; try (with_reducible rfl))
                      try simp only [Act.put, List.setIfInBounds_toArray, List.set_cons_zero, List.set_cons_succ]
                      refine till_take 10 (v := ?_) rfl (by kernel_rfl) (fun _ _ _ h => h) (Or.inl ⟨by rfl, ?_⟩) hS ?_
                      rotate_left
                      focus (intro w' hSw; obtain ⟨q1, q2, ql, p0, p1, p2, -, -, -, -, pl⟩ := hSw; go_simp; try (with_reducible rfl))
                      try simp only [Act.put, List.setIfInBounds_toArray, List.set_cons_zero, List.set_cons_succ]
                      refine till_take 11 (v := ?_) rfl (by kernel_rfl) (fun _ _ _ h => h) (Or.inl ⟨by rfl, ?_⟩) hS ?_
                      rotate_left
                      focus (intro w' hSw; obtain ⟨q1, q2, ql, p0, p1, p2, -, -, -, -, pl⟩ := hSw; go_simp; try (with_reducible rfl))
                      try simp only [Act.put, List.setIfInBounds_toArray, List.set_cons_zero, List.set_cons_succ]
                      refine till_take 12 (v := ?_) rfl (by kernel_rfl) (fun _ _ _ h => h) (Or.inl ⟨by rfl, ?_⟩) hS ?_
                      rotate_left
                      focus (intro w' hSw; obtain ⟨q1, q2, ql, p0, p1, p2, -, -, -, -, pl⟩ := hSw; go_simp; try (with_reducible rfl))
                      try simp only [Act.put, List.setIfInBounds_toArray, List.set_cons_zero, List.set_cons_succ]
                      refine till_take 13 (v := ?_) rfl (by kernel_rfl) (fun _ _ _ h => h) (Or.inl ⟨by rfl, ?_⟩) hS ?_
                      rotate_left
                      focus (intro w' hSw; obtain ⟨q1, q2, ql, p0, p1, p2, -, -, -, -, pl⟩ := hSw; go_simp; try (with_reducible rfl))
                      try simp only [Act.put, List.setIfInBounds_toArray, List.set_cons_zero, List.set_cons_succ]
                      refine till_take 14 (v := ?_) rfl (by kernel_rfl) (fun _ _ _ h => h) (Or.inl ⟨by rfl, ?_⟩) hS ?_
                      rotate_left
                      focus (intro w' hSw; obtain ⟨q1, q2, ql, p0, p1, p2, -, -, -, -, pl⟩ := hSw; go_simp; try (with_reducible rfl))
                      try simp only [Act.put, List.setIfInBounds_toArray, List.set_cons_zero, List.set_cons_succ]
                      refine till_take 15 (v := ?_) rfl (by kernel_rfl) (fun _ _ _ h => h) (Or.inl ⟨by rfl, ?_⟩) hS ?_
                      rotate_left
                      focus (intro w' hSw; obtain ⟨q1, q2, ql, p0, p1, p2, -, -, -, -, pl⟩ := hSw; go_simp; try (with_reducible rfl))
                      try simp only [Act.put, List.setIfInBounds_toArray, List.set_cons_zero, List.set_cons_succ]
                      refine till_take 16 (v := ?_) rfl (by kernel_rfl) (fun _ _ _ h => h) (Or.inl ⟨by rfl, ?_⟩) hS ?_
                      rotate_left
                      focus (intro w' hSw; obtain ⟨q1, q2, ql, p0, p1, p2, -, -, -, -, pl⟩ := hSw; go_simp; try (with_reducible rfl))
                      try simp only [Act.put, List.setIfInBounds_toArray, List.set_cons_zero, List.set_cons_succ]
                      refine till_take 17 (v := ?_) rfl (by kernel_rfl) (fun _ _ _ h => h) (Or.inl ⟨by rfl, ?_⟩) hS ?_
                      rotate_left
                      focus (intro w' hSw; obtain ⟨q1, q2, ql, p0, p1, p2, -, -, -, -, pl⟩ := hSw; go_simp; try (with_reducible rfl))
                      try simp only [Act.put, List.setIfInBounds_toArray, List.set_cons_zero, List.set_cons_succ]
                      refine till_take 18 (v := ?_) rfl (by kernel_rfl) (fun _ _ _ h => h) (Or.inl ⟨by rfl, ?_⟩) hS ?_
                      rotate_left
                      focus (intro w' hSw; obtain ⟨q1, q2, ql, p0, p1, p2, -, -, -, -, pl⟩ := hSw; go_simp; try (with_reducible rfl))
                      try simp only [Act.put, List.setIfInBounds_toArray, List.set_cons_zero, List.set_cons_succ]
                      refine till_take 19 (v := ?_) rfl (by kernel_rfl) (fun _ _ _ h => h) (Or.inl ⟨by rfl, ?_⟩) hS ?_
                      rotate_left
                      focus (intro w' hSw; obtain ⟨q1, q2, ql, p0, p1, p2, -, -, -, -, pl⟩ := hSw; go_simp; try (with_reducible rfl))
                      try simp only [Act.put, List.setIfInBounds_toArray, List.set_cons_zero, List.set_cons_succ]
                      refine till_take 20 (v := ?_) rfl (by kernel_rfl) (fun _ _ _ h => h) (Or.inl ⟨by rfl, ?_⟩) hS ?_
                      rotate_left
                      focus (intro w' hSw; obtain ⟨q1, q2, ql, p0, p1, p2, -, -, -, -, pl⟩ := hSw; go_simp; try (with_reducible rfl))
                      try simp only [Act.put, List.setIfInBounds_toArray, List.set_cons_zero, List.set_cons_succ]
                      refine till_take 21 (v := ?_) rfl (by kernel_rfl) (fun _ _ _ h => h) (Or.inl ⟨by rfl, ?_⟩) hS ?_
                      rotate_left
                      focus (intro w' hSw; obtain ⟨q1, q2, ql, p0, p1, p2, -, -, -, -, pl⟩ := hSw; go_simp; try (with_reducible rfl))
                      try simp only [Act.put, List.setIfInBounds_toArray, List.set_cons_zero, List.set_cons_succ]
                      refine till_ready [22] (by kernel_rfl) (TillReady.cons 22 rfl (fun K hK => ?_) TillReady.nil)
                      go_simp
                      refine H11.out.mono ?_
                      rintro e w5 ⟨rfl, M5, v5, hq5, hs5⟩
                      have hs35 : QStep (m2.x g) w3 (m2.M g) (m2.v g) w5 M5 v5 := QStep.belowL (Below.refl _ _).drew hs5
                      have c5 := C3.out.qstep (Nat.lt_succ_self g) hq5 hs35
                      clear hS
                      have hS : BgS c g lk (k * 7) (.pointer (some ⟨m2.x g, 0, none⟩)) (.slice (some ⟨lk, 0, none⟩) N lcap) y w5 := by
                        have := BgS.of c5 (Nat.lt_succ_self g) HLE.out HY.out
                        simp only at this
                        rw [HLE3.out] at this; exact this
                      refine (Hid.out hK) _ _ (fun _ => hS) ?_
                      try simp only [Act.put, List.setIfInBounds_toArray, List.set_cons_zero, List.set_cons_succ]
                      refine till_take 23 (v := ?_) rfl (by kernel_rfl) (fun _ _ _ h => h) (Or.inl ⟨by rfl, ?_⟩) hS ?_
                      rotate_left
                      focus (intro w' hSw; obtain ⟨q1, q2, ql, p0, p1, p2, -, -, -, -, pl⟩ := hSw; go_simp; try (with_reducible rfl))
                      try simp only [Act.put, List.setIfInBounds_toArray, List.set_cons_zero, List.set_cons_succ]
                      refine till_take 24 (v := ?_) rfl (by kernel_rfl) (fun _ _ _ h => h) (Or.inl ⟨by rfl, ?_⟩) hS ?_
                      rotate_left
                      focus (intro w' hSw; obtain ⟨q1, q2, ql, p0, p1, p2, -, -, -, -, pl⟩ := hSw; go_simp; try (with_reducible rfl))
                      try simp only [Act.put, List.setIfInBounds_toArray, List.set_cons_zero, List.set_cons_succ]
                      refine till_take 25 (v := ?_) rfl (by kernel_rfl) (fun _ _ _ h => h) (Or.inl ⟨by rfl, ?_⟩) hS ?_
                      rotate_left
                      focus (intro w' hSw; obtain ⟨q1, q2, ql, p0, p1, p2, -, -, -, -, pl⟩ := hSw; go_simp; try (with_reducible rfl))
                      try simp only [Act.put, List.setIfInBounds_toArray, List.set_cons_zero, List.set_cons_succ]
                      refine till_take 26 (v := ?_) rfl (by kernel_rfl) (fun _ _ _ h => h) (Or.inl ⟨by rfl, ?_⟩) hS ?_
                      rotate_left
                      focus (intro w' hSw; obtain ⟨q1, q2, ql, p0, p1, p2, -, -, -, -, pl⟩ := hSw; go_simp; try (with_reducible rfl))
                      try simp only [Act.put, List.setIfInBounds_toArray, List.set_cons_zero, List.set_cons_succ]
                      refine till_ready [27] (by kernel_rfl) (TillReady.cons 27 rfl (fun K hK => ?_) TillReady.nil)
                      go_simp
                      refine (Hid.out hK) _ _ (fun h => absurd rfl h) ?_
                      refine till_done (by kernel_rfl) ?_
                      refine NoPanic.normal ?_
                      obtain ⟨q1, q2, ql, -, -, -, -, -, -, -, pl⟩ := hS
                      have hcg := C3.out.q g (Nat.lt_succ_self g)
                      have hrow5 := c5.all
                      simp only at hrow5
                      rw [HLE.out] at hrow5
                      have pz := row_free hrow5 (k * 7 + 3 + g)
                      have pc := row_at hrow5 HY.out (j := 3 + g) (encR_kn y hg)
                      rw [← Nat.add_assoc] at pc
                      obtain ⟨m', hst, hbl⟩ := HMD2.out.step hg (by omega) HY.out HBD4.out HIN.out (lk := lk) (lc := lcap) (by rw [← HMD2.out.av]; exact HLE3.out) HK.out HW3.out hq5 hs35
                      rw [← Nat.add_assoc] at hst hbl
                      have HST := Lib.hid hst
                      have HBL := Lib.hid (HBD3.out.trans hbl)
                      clear hS0 hcg hrow5 hst hbl hq5 hs5 hs35 c5
                      go_wp2
                      go_tidy
                      exact ⟨⟨n + 1, m', D.set k true, rfl, by omega, HST.out, HBL.out⟩, by simp [intOf]; omega⟩
                    · have hd : decide ((g : Int) ∈ y.1.groups) = false := decide_eq_false hin
                      rw [hd] at h38
                      have H38 := Lib.hid h38
                      have HSK := Lib.hid (HMD2.out.skip fun k' a hk' ha hga => by
                        have h3 := HK.out
                        obtain rfl : k' = k := by omega
                        rw [allOf_at HY.out] at ha
                        cases ha; exact absurd hga hin)
                      clear h38 hin hd hym
                      go_wp2_with (first | (go_at_call 38; refine H38.out.mono ?_; rintro e w2 ⟨rfl, hw2⟩; subst hw2) | fail)
                      go_tidy
                      exact ⟨⟨n + 1, m2, D, rfl, by omega, HSK.out, HBD3.out⟩, by simp [intOf]; omega⟩
                · have hkI : ¬ (k : Int) < (N : Int) := by omega
                  have HSK := Lib.hid (HMD2.out.skip fun k' a hk' ha _ => by
                    have h1 := (List.getElem?_eq_some_iff.1 ha).1
                    have h2 : (allOf m2).length = N := by unfold allOf; rw [List.length_map]; exact HMD2.out.len
                    have h3 := HK.out
                    omega)
                  go_wp2
                  go_tidy
                  exact ⟨⟨n + 1, m2, D, rfl, by omega, HSK.out, HBD3.out⟩, by simp [intOf]; omega⟩
              · have hnoI : ¬ (n : Int) < ((o g).length : Int) := by omega
                go_upto_region 24 with fail
                obtain ⟨k, hkx⟩ : ∃ k : Nat, (n : Int) - ((o g).length : Int) = k := ⟨n - (o g).length, by omega⟩
                rw [hkx]
                have hk : n < (o g).length ∨ k + (o g).length = n := by right; omega
                have HMD2 := HMD
                have HBD3 := HBD2
                clear f4 fl fo fol hkx hnoI HMD HBD2
                have HK := Lib.hid hk
                have hlv' : av1 = .slice aa N ac := HAV.out
                have f4 : wn.cell? ⟨c, 4, none⟩ = some (.slice aa N ac) := by rw [← hlv', ← HMD2.out.av]; exact HMD2.out.at_.box.cell (j := 4) rfl
                have fl := HMD2.out.at_.box.lt
                clear hk
                rcases Nat.lt_or_ge k N with hkN | hkN
                · have hkI : (k : Int) < (N : Int) := by omega
                  have hkf : decide ((N : Int) ≤ (k : Int)) = false := decide_eq_false (by omega)
                  obtain ⟨y, hy⟩ : ∃ y, m2.A[k]? = some y := ⟨_, List.getElem?_eq_getElem (by rw [HMD2.out.len]; exact hkN)⟩
                  have hDl : D.length = N := by
                    have h1 := HMD2.out.mid.beg.len
                    unfold allOf at h1
                    rw [List.length_map, HMD2.out.len] at h1; exact h1
                  obtain ⟨bd, hbd⟩ : ∃ b, D[k]? = some b := ⟨_, List.getElem?_eq_getElem (by rw [hDl]; exact hkN)⟩
                  have d0 : wn.cell? ⟨d, k, none⟩ = some (.bool bd) := HMD2.out.done.cell (by rw [List.getElem?_map, hbd]; rfl)
                  have dl := HMD2.out.done.lt
                  obtain ⟨lk, lcap, hle, hlkl, hlcap⟩ := row_addr HMD2.out.at_.all (by rw [HMD2.out.len]; omega)
                  have hle2 : Value.slice (some ⟨lk, 0, none⟩) N lcap = .slice aa N ac := by rw [← hlv', ← HMD2.out.av, hle, HMD2.out.len]
                  have haa : aa = some ⟨lk, 0, none⟩ := by cases hle2; rfl
                  rw [haa] at f4
                  obtain ⟨y0, y1, y2, -, -, -, -, yl⟩ := CellsR.of (by have := HMD2.out.at_.all; rw [hle] at this; exact this) hy
                  have hym := List.mem_of_getElem? hy
                  have h38 := c38 (owns_rowG (HMD2.out.at_.gs y hym)) g
                  have HY := Lib.hid hy
                  have HBD4 := Lib.hid hbd
                  have HLE := Lib.hid hle
                  have HAA := Lib.hid haa
                  have HKN := Lib.hid hkN
                  clear hle2 haa hlv' hy hbd hDl hle hkN
                  cases bd with
                  | true =>
                    have HSK := Lib.hid (HMD2.out.skip fun k' a hk' ha _ => by
                      have h3 := HK.out
                      obtain rfl : k' = k := by omega
                      exact HBD4.out)
                    clear h38 hym
                    go_wp2
                    go_tidy
                    exact ⟨⟨n + 1, m2, D, rfl, by omega, HSK.out, HBD3.out⟩, by simp [intOf]; omega⟩
                  | false =>
                    by_cases hin : (g : Int) ∈ y.1.groups
                    · have hd : decide ((g : Int) ∈ y.1.groups) = true := decide_eq_true hin
                      rw [hd] at h38
                      have H38 := Lib.hid h38
                      have HIN := Lib.hid hin
                      clear h38 hin hd hym
                      go_upto_region 25 with (first | (go_at_call 38; refine H38.out.mono ?_; rintro e w2 ⟨rfl, hw2⟩; subst hw2) | fail)
                      have pz := HMD2.out.done.free k
                      go_upto_region 26 with fail
                      generalize hW3 : World.setCell w2 _ _ = w3
                      have hw3 : w3 = w2.setCell ⟨d, k, none⟩ (.bool true) := hW3.symm
                      obtain ⟨c3, -, b3⟩ := HMD2.out.mark hw3
                      have hbg := HMD2.out.begins hg (by omega) HY.out HBD4.out HIN.out
                      have hym := List.mem_of_getElem? HY.out
                      have hgl : y.1.groups.length ≤ 1000 := by have := may_len (HMD2.out.mid.may y.1 (List.mem_map_of_mem hym)); omega
                      have hMl : (m2.M g).length ≤ 1000 := by
                        have h1 := (c3.q g (by omega)).len
                        have h2 := HMD2.out.cnt
                        have h3 : (D.filter id).length ≤ D.length := List.length_filter_le _ _
                        have h4 := HMD2.out.mid.beg.len
                        unfold allOf at h4
                        rw [List.length_map, HMD2.out.len] at h4
                        omega
                      have hdr : Below w3.heap.size w3 w3.drew := (Below.refl _ _).drew
                      have hgx : 0 < y.1.groups.length → y.2.ownBlock ≠ some (m2.x g) := fun _ e => by
                        have := c3.sep 5 g (m2.x g) (.inr (.inr (.inl ⟨rfl, .inr ⟨y, hym, e⟩⟩))) (.inl ⟨by omega, .inl (.inl rfl)⟩)
                        omega
                      have h11 := c11 ((c3.q g (by omega)).below hdr) y.1.id (owns_rowG ((c3.below hdr).gs y hym)) hgx hgl hMl
                      rw [hbg] at h11
                      unfold pairV at h11
                      simp only at h11
                      have hle3 : m2.av = .slice (some ⟨lk, 0, none⟩) N lcap := by rw [HLE.out, HMD2.out.len]
                      have hS0 : BgS c g lk (k * 7) (.pointer (some ⟨m2.x g, 0, none⟩)) (.slice (some ⟨lk, 0, none⟩) N lcap) y w3.drew := by
                        have := BgS.of (c3.below hdr) (Nat.lt_succ_self g) HLE.out HY.out
                        rw [hle3] at this; exact this
                      have H11 := Lib.hid h11
                      have C3 := Lib.hid c3
                      have HW3 := Lib.hid hw3
                      have HLE3 := Lib.hid hle3
                      clear pz hW3 hw3 c3 b3 hbg hym hgl hMl hdr hgx h11 hle3 y0 y1 y2 yl d0 dl f4 fl hlkl H38
                      refine wp_region_noPanic ?_
                      refine till_start (BgS c g lk (k * 7) (.pointer (some ⟨m2.x g, 0, none⟩)) (.slice (some ⟨lk, 0, none⟩) N lcap) y) 27 (by kernel_rfl) ?_
                      have hS := hS0
                      show AnyTill _ _ _ _ _ _ 28 (Array.replicate 28 false) _ _
                      refine till_take 0 (v := ?_) rfl (by kernel_rfl) (fun _ _ _ h => h) (Or.inl ⟨by rfl, ?_⟩) hS ?_
                      rotate_left
                      focus (intro w' hSw; obtain ⟨q1, q2, ql, p0, p1, p2, -, -, -, -, pl⟩ := hSw; go_simp; try (with_reducible rfl))
                      try simp only [Act.put, List.setIfInBounds_toArray, List.set_cons_zero, List.set_cons_succ]
                      refine till_take 1 (v := ?_) rfl (by kernel_rfl) (fun _ _ _ h => h) (Or.inl ⟨by rfl, ?_⟩) hS ?_
                      rotate_left
                      focus (intro w' hSw; obtain ⟨q1, q2, ql, p0, p1, p2, -, -, -, -, pl⟩ := hSw; go_simp; try (with_reducible rfl))
                      try simp only [Act.put, List.setIfInBounds_toArray, List.set_cons_zero, List.set_cons_succ]
                      refine till_take 2 (v := ?_) rfl (by kernel_rfl) (fun _ _ _ h => h) (Or.inl ⟨by rfl, ?_⟩) hS ?_
                      rotate_left
                      focus (intro w' hSw; obtain ⟨q1, q2, ql, p0, p1, p2, -, -, -, -, pl⟩ := hSw; go_simp; try (with_reducible rfl))
                      try simp only [Act.put, List.setIfInBounds_toArray, List.set_cons_zero, List.set_cons_succ]
                      refine till_take 3 (v := ?_) rfl (by kernel_rfl) (fun _ _ _ h => h) (Or.inl ⟨by rfl, ?_⟩) hS ?_
                      rotate_left
                      focus (intro w' hSw; obtain ⟨q1, q2, ql, p0, p1, p2, -, -, -, -, pl⟩ := hSw; go_simp; try (with_reducible rfl))
                      try simp only [Act.put, List.setIfInBounds_toArray, List.set_cons_zero, List.set_cons_succ]
                      refine till_take 4 (v := ?_) rfl (by kernel_rfl) (fun _ _ _ h => h) (Or.inl ⟨by rfl, ?_⟩) hS ?_
                      rotate_left
                      focus (intro w' hSw; obtain ⟨q1, q2, ql, p0, p1, p2, -, -, -, -, pl⟩ := hSw; go_simp; try (with_reducible rfl))
                      try simp only [Act.put, List.setIfInBounds_toArray, List.set_cons_zero, List.set_cons_succ]
                      refine till_take 5 (v := ?_) rfl (by kernel_rfl) (fun _ _ _ h => h) (Or.inl ⟨by rfl, ?_⟩) hS ?_
                      rotate_left
                      focus (intro w' hSw; obtain ⟨q1, q2, ql, p0, p1, p2, -, -, -, -, pl⟩ := hSw; go_simp; try (with_reducible rfl))
                      try simp only [Act.put, List.setIfInBounds_toArray, List.set_cons_zero, List.set_cons_succ]
                      refine till_take 6 (v := ?_) rfl (by kernel_rfl) (fun _ _ _ h => h) (Or.inl ⟨by rfl, ?_⟩) hS ?_
                      rotate_left
                      focus (intro w' hSw; obtain ⟨q1, q2, ql, p0, p1, p2, -, -, -, -, pl⟩ := hSw; go_simp; try (with_reducible rfl))
                      try simp only [Act.put, List.setIfInBounds_toArray, List.set_cons_zero, List.set_cons_succ]
                      refine till_take 7 (v := ?_) rfl (by kernel_rfl) (fun _ _ _ h => h) (Or.inl ⟨by rfl, ?_⟩) hS ?_
                      rotate_left
                      focus (intro w' hSw; obtain ⟨q1, q2, ql, p0, p1, p2, -, -, -, -, pl⟩ := hSw; go_simp; try (with_reducible rfl))
                      try simp only [Act.put, List.setIfInBounds_toArray, List.set_cons_zero, List.set_cons_succ]
                      refine till_take 8 (v := ?_) rfl (by kernel_rfl) (fun _ _ _ h => h) (Or.inl ⟨by rfl, ?_⟩) hS ?_
                      rotate_left
                      focus (intro w' hSw; obtain ⟨q1, q2, ql, p0, p1, p2, -, -, -, -, pl⟩ := hSw; go_simp; try (with_reducible rfl))
                      try simp only [Act.put, List.setIfInBounds_toArray, List.set_cons_zero, List.set_cons_succ]
                      refine till_take 9 (v := ?_) rfl (by kernel_rfl) (fun _ _ _ h => h) (Or.inl ⟨by rfl, ?_⟩) hS ?_
                      rotate_left
                      focus (intro w' hSw; obtain ⟨q1, q2, ql, p0, p1, p2, -, -, -, -, pl⟩ := hSw; go_simp; try (with_reducible rfl))
                      try simp only [Act.put, List.setIfInBounds_toArray, List.set_cons_zero, List.set_cons_succ]
                      refine till_take 10 (v := ?_) rfl (by kernel_rfl) (fun _ _ _ h => h) (Or.inl ⟨by rfl, ?_⟩) hS ?_
                      rotate_left
                      focus (intro w' hSw; obtain ⟨q1, q2, ql, p0, p1, p2, -, -, -, -, pl⟩ := hSw; go_simp; try (with_reducible rfl))
                      try simp only [Act.put, List.setIfInBounds_toArray, List.set_cons_zero, List.set_cons_succ]
                      refine till_take 11 (v := ?_) rfl (by kernel_rfl) (fun _ _ _ h => h) (Or.inl ⟨by rfl, ?_⟩) hS ?_
                      rotate_left
                      focus (intro w' hSw; obtain ⟨q1, q2, ql, p0, p1, p2, -, -, -, -, pl⟩ := hSw; go_simp; try (with_reducible rfl))
                      try simp only [Act.put, List.setIfInBounds_toArray, List.set_cons_zero, List.set_cons_succ]
                      refine till_take 12 (v := ?_) rfl (by kernel_rfl) (fun _ _ _ h => h) (Or.inl ⟨by rfl, ?_⟩) hS ?_
                      rotate_left
                      focus (intro w' hSw; obtain ⟨q1, q2, ql, p0, p1, p2, -, -, -, -, pl⟩ := hSw; go_simp; try (with_reducible rfl))
                      try simp only [Act.put, List.setIfInBounds_toArray, List.set_cons_zero, List.set_cons_succ]
                      refine till_take 13 (v := ?_) rfl (by kernel_rfl) (fun _ _ _ h => h) (Or.inl ⟨by rfl, ?_⟩) hS ?_
                      rotate_left
                      focus (intro w' hSw; obtain ⟨q1, q2, ql, p0, p1, p2, -, -, -, -, pl⟩ := hSw; go_simp; try (with_reducible rfl))
                      try simp only [Act.put, List.setIfInBounds_toArray, List.set_cons_zero, List.set_cons_succ]
                      refine till_take 14 (v := ?_) rfl (by kernel_rfl) (fun _ _ _ h => h) (Or.inl ⟨by rfl, ?_⟩) hS ?_
                      rotate_left
                      focus (intro w' hSw; obtain ⟨q1, q2, ql, p0, p1, p2, -, -, -, -, pl⟩ := hSw; go_simp; try (with_reducible rfl))
                      try simp only [Act.put, List.setIfInBounds_toArray, List.set_cons_zero, List.set_cons_succ]
                      refine till_take 15 (v := ?_) rfl (by kernel_rfl) (fun _ _ _ h => h) (Or.inl ⟨by rfl, ?_⟩) hS ?_
                      rotate_left
                      focus (intro w' hSw; obtain ⟨q1, q2, ql, p0, p1, p2, -, -, -, -, pl⟩ := hSw; go_simp; try (with_reducible rfl))
                      try simp only [Act.put, List.setIfInBounds_toArray, List.set_cons_zero, List.set_cons_succ]
                      refine till_take 16 (v := ?_) rfl (by kernel_rfl) (fun _ _ _ h => h) (Or.inl ⟨by rfl, ?_⟩) hS ?_
                      rotate_left
                      focus (intro w' hSw; obtain ⟨q1, q2, ql, p0, p1, p2, -, -, -, -, pl⟩ := hSw; go_simp; try (with_reducible rfl))
                      try simp only [Act.put, List.setIfInBounds_toArray, List.set_cons_zero, List.set_cons_succ]
                      refine till_take 17 (v := ?_) rfl (by kernel_rfl) (fun _ _ _ h => h) (Or.inl ⟨by rfl, ?_⟩) hS ?_
                      rotate_left
                      focus (intro w' hSw; obtain ⟨q1, q2, ql, p0, p1, p2, -, -, -, -, pl⟩ := hSw; go_simp; try (with_reducible rfl))
                      try simp only [Act.put, List.setIfInBounds_toArray, List.set_cons_zero, List.set_cons_succ]
                      refine till_take 18 (v := ?_) rfl (by kernel_rfl) (fun _ _ _ h => h) (Or.inl ⟨by rfl, ?_⟩) hS ?_
                      rotate_left
                      focus (intro w' hSw; obtain ⟨q1, q2, ql, p0, p1, p2, -, -, -, -, pl⟩ := hSw; go_simp; try (with_reducible rfl))
                      try simp only [Act.put, List.setIfInBounds_toArray, List.set_cons_zero, List.set_cons_succ]
                      refine till_take 19 (v := ?_) rfl (by kernel_rfl) (fun _ _ _ h => h) (Or.inl ⟨by rfl, ?_⟩) hS ?_
                      rotate_left
                      focus (intro w' hSw; obtain ⟨q1, q2, ql, p0, p1, p2, -, -, -, -, pl⟩ := hSw; go_simp; try (with_reducible rfl))
                      try simp only [Act.put, List.setIfInBounds_toArray, List.set_cons_zero, List.set_cons_succ]
                      refine till_take 20 (v := ?_) rfl (by kernel_rfl) (fun _ _ _ h => h) (Or.inl ⟨by rfl, ?_⟩) hS ?_
                      rotate_left
                      focus (intro w' hSw; obtain ⟨q1, q2, ql, p0, p1, p2, -, -, -, -, pl⟩ := hSw; go_simp; try (with_reducible rfl))
                      try simp only [Act.put, List.setIfInBounds_toArray, List.set_cons_zero, List.set_cons_succ]
                      refine till_take 21 (v := ?_) rfl (by kernel_rfl) (fun _ _ _ h => h) (Or.inl ⟨by rfl, ?_⟩) hS ?_
                      rotate_left
                      focus (intro w' hSw; obtain ⟨q1, q2, ql, p0, p1, p2, -, -, -, -, pl⟩ := hSw; go_simp; try (with_reducible rfl))
                      try simp only [Act.put, List.setIfInBounds_toArray, List.set_cons_zero, List.set_cons_succ]
                      refine till_ready [22] (by kernel_rfl) (TillReady.cons 22 rfl (fun K hK => ?_) TillReady.nil)
                      go_simp
                      refine H11.out.mono ?_
                      rintro e w5 ⟨rfl, M5, v5, hq5, hs5⟩
                      have hs35 : QStep (m2.x g) w3 (m2.M g) (m2.v g) w5 M5 v5 := QStep.belowL (Below.refl _ _).drew hs5
                      have c5 := C3.out.qstep (Nat.lt_succ_self g) hq5 hs35
                      clear hS
                      have hS : BgS c g lk (k * 7) (.pointer (some ⟨m2.x g, 0, none⟩)) (.slice (some ⟨lk, 0, none⟩) N lcap) y w5 := by
                        have := BgS.of c5 (Nat.lt_succ_self g) HLE.out HY.out
                        simp only at this
                        rw [HLE3.out] at this; exact this
                      refine (Hid.out hK) _ _ (fun _ => hS) ?_
                      try simp only [Act.put, List.setIfInBounds_toArray, List.set_cons_zero, List.set_cons_succ]
                      refine till_take 23 (v := ?_) rfl (by kernel_rfl) (fun _ _ _ h => h) (Or.inl ⟨by rfl, ?_⟩) hS ?_
                      rotate_left
                      focus (intro w' hSw; obtain ⟨q1, q2, ql, p0, p1, p2, -, -, -, -, pl⟩ := hSw; go_simp; try (with_reducible rfl))
                      try simp only [Act.put, List.setIfInBounds_toArray, List.set_cons_zero, List.set_cons_succ]
                      refine till_take 24 (v := ?_) rfl (by kernel_rfl) (fun _ _ _ h => h) (Or.inl ⟨by rfl, ?_⟩) hS ?_
                      rotate_left
                      focus (intro w' hSw; obtain ⟨q1, q2, ql, p0, p1, p2, -, -, -, -, pl⟩ := hSw; go_simp; try (with_reducible rfl))
                      try simp only [Act.put, List.setIfInBounds_toArray, List.set_cons_zero, List.set_cons_succ]
                      refine till_take 25 (v := ?_) rfl (by kernel_rfl) (fun _ _ _ h => h) (Or.inl ⟨by rfl, ?_⟩) hS ?_
                      rotate_left
                      focus (intro w' hSw; obtain ⟨q1, q2, ql, p0, p1, p2, -, -, -, -, pl⟩ := hSw; go_simp; try (with_reducible rfl))
                      try simp only [Act.put, List.setIfInBounds_toArray, List.set_cons_zero, List.set_cons_succ]
                      refine till_take 26 (v := ?_) rfl (by kernel_rfl) (fun _ _ _ h => h) (Or.inl ⟨by rfl, ?_⟩) hS ?_
                      rotate_left
                      focus (intro w' hSw; obtain ⟨q1, q2, ql, p0, p1, p2, -, -, -, -, pl⟩ := hSw; go_simp; try (with_reducible rfl))
                      try simp only [Act.put, List.setIfInBounds_toArray, List.set_cons_zero, List.set_cons_succ]
                      refine till_ready [27] (by kernel_rfl) (TillReady.cons 27 rfl (fun K hK => ?_) TillReady.nil)
                      go_simp
                      refine (Hid.out hK) _ _ (fun h => absurd rfl h) ?_
                      refine till_done (by kernel_rfl) ?_
                      refine NoPanic.normal ?_
                      obtain ⟨q1, q2, ql, -, -, -, -, -, -, -, pl⟩ := hS
                      have hcg := C3.out.q g (Nat.lt_succ_self g)
                      have hrow5 := c5.all
                      simp only at hrow5
                      rw [HLE.out] at hrow5
                      have pz := row_free hrow5 (k * 7 + 3 + g)
                      have pc := row_at hrow5 HY.out (j := 3 + g) (encR_kn y hg)
                      rw [← Nat.add_assoc] at pc
                      obtain ⟨m', hst, hbl⟩ := HMD2.out.step hg (by omega) HY.out HBD4.out HIN.out (lk := lk) (lc := lcap) (by rw [← HMD2.out.av]; exact HLE3.out) HK.out HW3.out hq5 hs35
                      rw [← Nat.add_assoc] at hst hbl
                      have HST := Lib.hid hst
                      have HBL := Lib.hid (HBD3.out.trans hbl)
                      clear hS0 hcg hrow5 hst hbl hq5 hs5 hs35 c5
                      go_wp2
                      go_tidy
                      exact ⟨⟨n + 1, m', D.set k true, rfl, by omega, HST.out, HBL.out⟩, by simp [intOf]; omega⟩
                    · have hd : decide ((g : Int) ∈ y.1.groups) = false := decide_eq_false hin
                      rw [hd] at h38
                      have H38 := Lib.hid h38
                      have HSK := Lib.hid (HMD2.out.skip fun k' a hk' ha hga => by
                        have h3 := HK.out
                        obtain rfl : k' = k := by omega
                        rw [allOf_at HY.out] at ha
                        cases ha; exact absurd hga hin)
                      clear h38 hin hd hym
                      go_wp2_with (first | (go_at_call 38; refine H38.out.mono ?_; rintro e w2 ⟨rfl, hw2⟩; subst hw2) | fail)
                      go_tidy
                      exact ⟨⟨n + 1, m2, D, rfl, by omega, HSK.out, HBD3.out⟩, by simp [intOf]; omega⟩
                · have hkI : ¬ (k : Int) < (N : Int) := by omega
                  have HSK := Lib.hid (HMD2.out.skip fun k' a hk' ha _ => by
                    have h1 := (List.getElem?_eq_some_iff.1 ha).1
                    have h2 : (allOf m2).length = N := by unfold allOf; rw [List.length_map]; exact HMD2.out.len
                    have h3 := HK.out
                    omega)
                  go_wp2
                  go_tidy
                  exact ⟨⟨n + 1, m2, D, rfl, by omega, HSK.out, HBD3.out⟩, by simp [intOf]; omega⟩
            · obtain rfl : n = N + (o g).length := by omega
              go_upto_region 19 with fail
              go_quiet (fail)
              obtain ⟨he1, he2⟩ := (HM.out.below (drewN_below wr nq)).end_ (Nat.le_refl _)
              have HE1 := Lib.hid he1
              have HE2 := Lib.hid he2
              have HBD2 := Lib.hid (HB.out.trans ((drewN_below wr nq).mono HM.out.at_.low1))
              clear he1 he2
              go_wp2
              go_tidy
              exact ⟨⟨g + 1, m2, rfl, hg, HE2.out, HE1.out, HBD2.out⟩, by simp [intOf]; omega⟩
        · obtain rfl : g = 4 := by omega
          go_wp2
          go_tidy
          exact HR.out _ _ ⟨c, m, W1.heap.size, rfl, HIg.out.good HCg.out, HB1.out.size, HB1.out.trans (HB.out.mono HB1.out.size)⟩
end Go.Proofs.Ytamjdghjaimihaa
