/- The law NetOrder's walk. Conditions: each law's own. -/
import Derived.Test.YtkkambhkfegodaaFull
namespace Go.Proofs.Ytkkambhkfegodaa
open Go.ChangeShapes Go.WideShapes Go.ChangeAt Go.RowKit

/-- The link that a byte names. -/
def keyN (l : Nat) : Key := (((l % 2 : Nat) : Int), ((l / 2 % 2 : Nat) : Int))
/-- The byte number i. -/
def byt (ns : List Nat) (i : Nat) : Nat := ns.getD i 0
/-- Which of the first j packets are for a link. -/
def sent (ns : List Nat) (j : Nat) (k : Key) : List Nat := (List.range j).filter fun i => decide (keyN (byt ns i) = k)
def pks (R : Key → List Nat) : Key → List (List Int) := fun k => (R k).map fun m : Nat => [(m : Int)]
theorem sent_succ (ns : List Nat) (j : Nat) (k : Key) : sent ns (j + 1) k = if keyN (byt ns j) = k then sent ns j k ++ [j] else sent ns j k := by
  unfold sent
  rw [List.range_succ, List.filter_append]
  by_cases h : keyN (byt ns j) = k
  · simp [h]
  · simp only [h, decide_false, List.filter_cons, List.filter_nil, if_false]; simp
theorem pks_send (ns : List Nat) (j : Nat) : setB (pks (sent ns j)) (keyN (byt ns j)) (pks (sent ns j) (keyN (byt ns j)) ++ [[(j : Int)]]) = pks (sent ns (j + 1)) := by
  funext k
  unfold setB pks
  rw [sent_succ]
  by_cases h : k = keyN (byt ns j)
  · subst h; simp
  · rw [if_neg h, if_neg (Ne.symm h)]
theorem sent_len (ns : List Nat) (j : Nat) (k : Key) : (sent ns j k).length ≤ j := by
  unfold sent
  have := List.length_filter_le (fun i => decide (keyN (byt ns i) = k)) (List.range j)
  simpa using this
/-- What holds when the last j links have been looked at: R is what is left, last what came last. -/
structure Left (ns : List Nat) (j : Nat) (R : Key → List Nat) (last : Nat → Int) : Prop where
  rise : ∀ k, (R k).Pairwise (· < ·)
  are : ∀ k, ∀ m ∈ R k, m < ns.length ∧ keyN (byt ns m) = k
  over : ∀ l : Nat, ∀ m ∈ R (keyN l), last (l % 4) < (m : Int)
  count : ∀ k, (R k).length = (sent ns (ns.length - j) k).length
theorem Left.start (ns : List Nat) : Left ns 0 (sent ns ns.length) (fun _ => -1) where
  rise k := (List.pairwise_lt_range).filter _
  are k m hm := by
    unfold sent at hm
    simp at hm
    exact ⟨hm.1, by simpa using hm.2⟩
  over l m _ := by omega
  count k := rfl
theorem keyN_mod (l l' : Nat) (h : keyN l = keyN l') : l % 4 = l' % 4 := by
  unfold keyN at h
  injection h with h1 h2
  have h1 : l % 2 = l' % 2 := by omega
  have h2 : l / 2 % 2 = l' / 2 % 2 := by omega
  omega
theorem keyN_of (l : Nat) : keyN l = ((((l % 4) % 2 : Nat) : Int), (((l % 4) / 2 : Nat) : Int)) := by
  unfold keyN
  have h1 : l % 4 % 2 = l % 2 := by omega
  have h2 : l % 4 / 2 = l / 2 % 2 := by omega
  rw [h1, h2]
def dropOne (R : Key → List Nat) (k : Key) : Key → List Nat := fun k' => if k' = k then (R k).tail else R k'
def setLast (last : Nat → Int) (i : Nat) (m : Int) : Nat → Int := fun i' => if i' = i then m else last i'
theorem Left.next {ns : List Nat} {j : Nat} {R : Key → List Nat} {last : Nat → Int} (h : Left ns j R last) (hj : j < ns.length) :
    ∃ m rest, R (keyN (byt ns (ns.length - 1 - j))) = m :: rest ∧ m < ns.length ∧ last (byt ns (ns.length - 1 - j) % 4) < (m : Int) ∧ (byt ns m) % 4 = byt ns (ns.length - 1 - j) % 4 ∧
      Left ns (j + 1) (dropOne R (keyN (byt ns (ns.length - 1 - j)))) (setLast last (byt ns (ns.length - 1 - j) % 4) m) := by
  generalize hl : byt ns (ns.length - 1 - j) = l
  have hc := h.count (keyN l)
  have hsucc : ns.length - j = (ns.length - 1 - j) + 1 := by omega
  have hs := sent_succ ns (ns.length - 1 - j) (keyN l)
  rw [hl, if_pos rfl] at hs
  rw [hsucc, hs] at hc
  match hR : R (keyN l) with
  | [] => rw [hR] at hc; simp at hc
  | m :: rest =>
    have hm := h.are (keyN l) m (by rw [hR]; simp)
    have hp := h.rise (keyN l)
    rw [hR, List.pairwise_cons] at hp
    refine ⟨m, rest, rfl, hm.1, h.over l m (by rw [hR]; simp), keyN_mod _ _ hm.2, ⟨fun k => ?_, fun k m' hm' => ?_, fun l' m' hm' => ?_, fun k => ?_⟩⟩
    · unfold dropOne
      split
      · rw [hR]; exact hp.2
      · exact h.rise k
    · unfold dropOne at hm'
      split at hm'
      · rename_i hk; subst hk; rw [hR] at hm'; exact h.are _ m' (by rw [hR]; exact List.mem_cons_of_mem _ hm')
      · exact h.are k m' hm'
    · unfold dropOne at hm'
      unfold setLast
      split at hm'
      · rename_i hk
        rw [if_pos (keyN_mod _ _ hk)]
        rw [hR] at hm'
        have := hp.1 m' hm'
        omega
      · rename_i hk
        rw [if_neg]
        · exact h.over l' m' hm'
        · intro e
          apply hk
          rw [keyN_of, keyN_of, e]
    · have hc' := h.count k
      have hs' := sent_succ ns (ns.length - 1 - j) k
      rw [hl] at hs'
      rw [hsucc, hs'] at hc'
      have e1 : ns.length - (j + 1) = ns.length - 1 - j := by omega
      rw [e1]
      unfold dropOne
      by_cases hk : k = keyN l
      · subst hk
        rw [if_pos rfl] at hc' ⊢
        rw [hR] at hc' ⊢
        simp at hc' ⊢; omega
      · rw [if_neg hk]
        rw [if_neg (Ne.symm hk)] at hc'
        exact hc'
theorem Left.done {ns : List Nat} {R : Key → List Nat} {last : Nat → Int} (h : Left ns ns.length R last) (k : Key) : R k = [] := by
  have := h.count k
  rw [Nat.sub_self] at this
  simp [sent] at this
  exact this
theorem pks_take (R : Key → List Nat) (k : Key) : setB (pks R) k ((pks R k).eraseIdx 0) = pks (dropOne R k) := by
  funext k'
  unfold setB pks dropOne
  split
  · rename_i h; subst h
    cases R k' <;> rfl
  · rfl

theorem getD_at {ns : List Nat} {i : Nat} (h : i < ns.length) : ns[i]? = some (byt ns i) := by
  unfold byt; rw [List.getD_eq_getElem?_getD, List.getElem?_eq_getElem h]; rfl
theorem RowOf.byte {w : World} {a : Option Addr} {n cap : Nat} {ns : List Nat} (h : RowOf encB 1 w (.slice a n cap) (ns.map fun m : Nat => (m : Int))) {i : Nat} (hi : i < ns.length) :
    ∃ b o, a = some ⟨b, o, none⟩ ∧ n = ns.length ∧ b < w.heap.size ∧ ∀ j, j < ns.length → w.cell? ⟨b, o + j, none⟩ = some (.int .u8 ((byt ns j : Nat) : Int)) := by
  obtain ⟨a', cap', hv, h1, h2, h3⟩ := h
  cases hv
  obtain ⟨b, o, rfl, hlt, hc⟩ := h3 (by simp; omega)
  refine ⟨b, o, rfl, by simp, hlt, fun j hj => ?_⟩
  have := hc j 0 ((byt ns j : Nat) : Int) _ (by rw [List.getElem?_map, getD_at hj]; rfl) rfl
  simpa using this
def OrderRel1 (w : World) (x : Nat) (ns : List Nat) (i : Value) (wr : World) : Prop := ∃ j : Nat, j ≤ ns.length ∧ i = .int .i64 j ∧ LawNet w x (pks (sent ns j)) j wr
def last4 (last : Nat → Int) : List Value := [.int .i64 (last 0), .int .i64 (last 1), .int .i64 (last 2), .int .i64 (last 3)]
theorem last4_at (last : Nat → Int) {k : Nat} (h : k < 4) : (last4 last)[k]? = some (.int .i64 (last k)) := by
  match k, h with
  | 0, _ => rfl
  | 1, _ => rfl
  | 2, _ => rfl
  | 3, _ => rfl
theorem last4_set (last : Nat → Int) {k : Nat} (h : k < 4) (m : Int) : (last4 last).set k (.int .i64 m) = last4 (setLast last k m) := by
  match k, h with
  | 0, _ => rfl
  | 1, _ => rfl
  | 2, _ => rfl
  | 3, _ => rfl
def OrderRel3 (w : World) (x K : Nat) (ns : List Nat) (i : Value) (wr : World) : Prop :=
  ∃ j : Nat, j ≤ ns.length ∧ i = .int .i64 j ∧ ∃ s R last, NetAt wr x s (pks R) (fun j => j < w.heap.size ∨ j = K) ns.length ∧ Below w.heap.size w wr ∧ VarAt wr K 27 (last4 last) ∧ Left ns j R last
theorem no_total {B : Key → List (List Int)} {ks : List Key} (h2 : ∀ k, k ∈ ks ↔ B k ≠ []) (h : ∀ k, B k = []) : total B ks = 0 := by
  obtain rfl : ks = [] := List.eq_nil_iff_forall_not_mem.2 fun k hk => (h2 k).1 hk (h k)
  rfl
theorem wrap_nat (k : Nat) (h : k < 256) : IntKind.i64.wrap (k : Int) = (k : Int) := by simp [IntKind.wrap, IntKind.signed, IntKind.bits]; omega
theorem wrap_nat8 (k : Nat) (h : k < 256) : IntKind.u8.wrap (k : Int) = (k : Int) := by simp [IntKind.wrap, IntKind.signed, IntKind.bits]; omega
theorem tmod_nat (a b : Nat) : ((a : Int).tmod (b : Int)) = ((a % b : Nat) : Int) := by rw [Int.tmod_eq_emod_of_nonneg (by omega)]; exact (Int.natCast_emod a b).symm
theorem tdiv_nat (a b : Nat) : ((a : Int).tdiv (b : Int)) = ((a / b : Nat) : Int) := by rw [Int.tdiv_eq_ediv_of_nonneg (by omega)]; exact (Int.natCast_ediv a b).symm
set_option maxHeartbeats 8000000 in
set_option maxRecDepth 100000 in
theorem c3 (a : Option Addr) (cap : Nat) (ns : List Nat) (w : World) (hv : RowOf encB 1 w (.slice a ns.length cap) (ns.map fun m : Nat => (m : Int))) (hns : ∀ i, byt ns i < 256) (hlen : ns.length ≤ 60) :
    Calls Try.prog 3 #[.slice a ns.length cap] w fun e w' => e = .returned (.bool true) ∧ Below w.heap.size w w' := by
  refine gen fun R hR => ?_
  have hlen2 : ¬ (60 < (ns.length : Int)) := by omega
  have HV := Lib.hid hv
  have HB := Lib.hid hns
  clear hv hns
  go_enter Try.func3, Try.ntmps3
  go_wp2_with (first
    | (go_at_call 8
       (with_reducible refine (c8 _).mono ?_)
       rintro e w1 ⟨rfl, hb8⟩)
    | (go_at_call 9; (with_reducible refine (c9 _).mono ?_); rintro e w' ⟨rfl, rfl⟩)
    | fail)
  have hn0 : LawNet w (w1.heap.size + 1) (fun _ => []) 0 ((w1.alloc (.map #[] 0)).alloc (.cells #[.map (some w1.heap.size)] 62)) :=
    ⟨newNS w1, NetAt.new w1 _ (LawNet.zlt hb8), (hb8.alloc hb8.size _).alloc (by have := hb8.size; simp; omega) _⟩
  have HN0 := Lib.hid hn0
  have hw1 := hb8.size
  clear hn0 hb8
  go_loopw [4] (fun i wr => OrderRel1 w (w1.heap.size + 1) ns i wr) (fun i _ => ns.length - (intOf i).toNat)
  case atStart => exact ⟨0, by omega, rfl, HN0.out⟩
  case round =>
    obtain ⟨j, hj, rfl, s, hN, hb⟩ := hrel
    rcases Nat.lt_or_ge j ns.length with hlt | hge
    · obtain ⟨b, o, rfl, -, hbl, hcs⟩ := HV.out.byte hlt
      have hjl : (j : Int) < (ns.length : Int) := by omega
      have hjw : IntKind.u8.wrap (j : Int) = j := by simp [IntKind.wrap, IntKind.signed, IntKind.bits]; omega
      have hcj := hcs j hlt
      rw [← hb.cell (p := ⟨b, o + j, none⟩) hbl] at hcj
      have hl := HB.out j
      obtain ⟨m1, hm1⟩ : ∃ m1 : Nat, m1 = byt ns j % 2 := ⟨_, rfl⟩
      obtain ⟨m2, hm2⟩ : ∃ m2 : Nat, m2 = byt ns j / 2 := ⟨_, rfl⟩
      obtain ⟨m3, hm3⟩ : ∃ m3 : Nat, m3 = m2 % 2 := ⟨_, rfl⟩
      have hk : keyN (byt ns j) = ((m1 : Int), (m3 : Int)) := by rw [hm3, hm2, hm1]; rfl
      have hsd := pks_send ns j
      have hsl := sent_len ns j (keyN (byt ns j))
      rw [hk] at hsd hsl
      have h10 := c10net ((hN.alloc (.cells #[.int .u8 j] 5)).drew) (LawNet.zlt (hb.alloc hb.size (.cells #[.int .u8 j] 5)).drew) (m1 : Int) (m3 : Int) _ [(j : Int)] (row_byte wr j) (by simp) (by unfold pks; rw [List.length_map]; omega)
      rw [hsd] at h10
      clear hk hsd hsl
      generalize byt ns j = l at *
      have hq1 : IntKind.i64.wrap ((l : Int) % 2) = (m1 : Int) := by simp [IntKind.wrap, IntKind.signed, IntKind.bits]; omega
      have hq5 : IntKind.i64.wrap ((l : Int).tmod 2) = (m1 : Int) := by rw [Int.tmod_eq_emod_of_nonneg (by omega)]; exact hq1
      have hq2 : IntKind.u8.wrap ((l : Int) / 2) = (m2 : Int) := by simp [IntKind.wrap, IntKind.signed, IntKind.bits]; omega
      have hq3 : IntKind.i64.wrap ((m2 : Int) % 2) = (m3 : Int) := by simp [IntKind.wrap, IntKind.signed, IntKind.bits]; omega
      have hq4 : IntKind.i64.wrap ((m2 : Int).tmod 2) = (m3 : Int) := by rw [Int.tmod_eq_emod_of_nonneg (by omega)]; exact hq3
      clear hm1 hm2 hm3
      have HN := Lib.hid hN
      have HBB := Lib.hid hb
      have hbl2 : b < wr.heap.size := Nat.lt_of_lt_of_le hbl hb.size
      clear hN hb hcs
      go_wp2_with fail
      go_region_held3 (fun w' => w'.cell? ⟨b, o + j, none⟩ = some (.int .u8 (l : Int)))
        (first | exact Lib.cell?_alloc_some _ hcj | exact hc2 | go_keep | fail)
        (first
          | (go_at_call 10
             refine h10.mono ?_
             rintro e w2 ⟨rfl, s2, hN2, hst2⟩
             have hc2 : w2.cell? ⟨b, o + j, none⟩ = some (.int .u8 (l : Int)) := by
               rw [World.cell?_of_block (a := ⟨b, o + j, none⟩) (hst2.frame.block b (by simp; omega) (fun ho => (HN.out.lt b ho).2 hbl))]
               exact Lib.cell?_alloc_some _ hcj)
          | fail)
      go_wp2
      go_tidy
      exact ⟨⟨j + 1, by omega, rfl, LawNet.step (HN.out.alloc (.cells #[.int .u8 j] 5)).drew (HBB.out.alloc HBB.out.size _).drew hN2 hst2⟩, by simp [intOf]; omega⟩
    · obtain rfl : j = ns.length := by omega
      have HN := Lib.hid hN
      have HBB := Lib.hid hb
      clear hN hb
      go_wp2
      refine wp_loop_rounds 5 ?_
      iterate 5 (rw [rounds_succ]; go_wp2)
      generalize hWK : (World.alloc _ _) = WK
      have hK : VarAt WK wr.heap.size 27 (last4 fun _ => -1) := by rw [← hWK]; exact VarAt.new wr 27 (last4 fun _ => -1)
      have hBK : Below w.heap.size w WK := by rw [← hWK]; exact HBB.out.alloc HBB.out.size _
      have hNK : NetAt WK (w1.heap.size + 1) s (pks (sent ns ns.length)) (fun j => j < w.heap.size ∨ j = wr.heap.size) ns.length := by
        rw [← hWK]
        refine HN.out.keep (A := fun _ => True) (.of_below ((Below.refl _ _).alloc (Nat.le_refl _) _) : Frame (fun _ => True) wr _) (fun j hj hz => ⟨trivial, ?_⟩)
        rintro (h | h)
        · exact hz h
        · omega
      have HNK := Lib.hid hNK
      have HBK := Lib.hid hBK
      have HKK := Lib.hid hK
      have hwrs := HBB.out.size
      clear hK hBK hNK hWK
      generalize hKb : wr.heap.size = Kb at *
      clear hKb
      go_loopw [7] (fun i wr2 => OrderRel3 w (w1.heap.size + 1) Kb ns i wr2) (fun i _ => ns.length - (intOf i).toNat)
      case atStart => exact ⟨0, by omega, rfl, s, _, _, HNK.out, HBK.out, HKK.out, Left.start ns⟩
      case round =>
        obtain ⟨j, hj2, rfl, s3, R3, last3, hN3, hb3, hK3, hL3⟩ := hrel
        rcases Nat.lt_or_ge j ns.length with hlt | hge2
        · obtain ⟨b, o, rfl, -, hbl, hcs⟩ := HV.out.byte hlt
          obtain ⟨m, rest, hRm, hmn, hlast, hmod, hL4⟩ := hL3.next hlt
          obtain ⟨p1, hp1⟩ : ∃ p1 : Nat, p1 = ns.length - 1 := ⟨_, rfl⟩
          obtain ⟨p2, hp2⟩ : ∃ p2 : Nat, p2 = ns.length - 1 - j := ⟨_, rfl⟩
          rw [← hp2] at hRm hlast hmod hL4
          have hcl := hcs p2 (by omega)
          have hcm := hcs m hmn
          have hbl2 : b < wr.heap.size := Nat.lt_of_lt_of_le hbl hb3.size
          rw [← hb3.cell (p := ⟨b, o + p2, none⟩) hbl] at hcl
          obtain ⟨k4, hk4⟩ : ∃ k4 : Nat, k4 = byt ns p2 % 4 := ⟨_, rfl⟩
          obtain ⟨r1, hr1⟩ : ∃ r1 : Nat, r1 = k4 % 2 := ⟨_, rfl⟩
          obtain ⟨r2, hr2⟩ : ∃ r2 : Nat, r2 = k4 / 2 := ⟨_, rfl⟩
          have hkey : keyN (byt ns p2) = ((r1 : Int), (r2 : Int)) := by rw [keyN_of, hr1, hr2, hk4]
          rw [← hk4] at hlast hmod hL4
          rw [hkey] at hRm hL4
          have hl256 := HB.out p2
          have hm256 := HB.out m
          have hk44 : k4 < 4 := by rw [hk4]; exact Nat.mod_lt _ (by decide)
          have h11 := c11 hN3 (fun j hj => hj.elim (fun h => Nat.lt_of_lt_of_le h hb3.size) (fun h => by rw [h]; exact hK3.lt)) (r1 : Int) (r2 : Int) 0 (by unfold pks; rw [List.length_map, hRm]; simp)
          have hb1 : (0 : Int) ≤ (ns.length : Int) - 1 - (j : Int) := by omega
          have hb2 : (ns.length : Int) - 1 - (j : Int) < (ns.length : Int) := by omega
          have hi1 : IntKind.i64.wrap ((ns.length : Int) - 1) = (ns.length : Int) - 1 := by simp [IntKind.wrap, IntKind.signed, IntKind.bits]; omega
          have hi2 : IntKind.i64.wrap ((ns.length : Int) - 1 - (j : Int)) = (ns.length : Int) - 1 - (j : Int) := by simp [IntKind.wrap, IntKind.signed, IntKind.bits]; omega
          rw [hp2] at hcl
          rw [← hp2] at hcl
          generalize byt ns p2 = l at *
          rw [hp2] at hcl
          generalize byt ns m = lm at *
          have ha1 : ((l : Int).tmod 4) = (k4 : Int) := by rw [hk4]; exact tmod_nat l 4
          have ha2 : ((l : Int) % 4) = (k4 : Int) := by rw [hk4]; exact (Int.natCast_emod l 4).symm
          have ha3 := wrap_nat k4 (by omega)
          have ha4 : ((k4 : Int).tmod 2) = (r1 : Int) := by rw [hr1]; exact tmod_nat k4 2
          have ha5 : ((k4 : Int) % 2) = (r1 : Int) := by rw [hr1]; exact (Int.natCast_emod k4 2).symm
          have ha6 : ((k4 : Int).tdiv 2) = (r2 : Int) := by rw [hr2]; exact tdiv_nat k4 2
          have ha7 : ((k4 : Int) / 2) = (r2 : Int) := by rw [hr2]; exact (Int.natCast_ediv k4 2).symm
          have ha8 := wrap_nat r1 (by omega)
          have ha9 := wrap_nat r2 (by omega)
          have HN3 := Lib.hid hN3
          have HB3 := Lib.hid hb3
          have HK3 := Lib.hid hK3
          have HL4 := Lib.hid hL4
          have HRM := Lib.hid hRm
          have HCM := Lib.hid hcm
          have HMOD := Lib.hid hmod
          clear hN3 hb3 hK3 hL3 hL4 hRm hcs hcm hmod hkey hk4 hr1 hr2
          go_wp2_with (first
            | (go_at_call 11
               refine h11.mono ?_
               rintro e wd ⟨pv, bb, rfl, hbk, hrow, s4, hou, hN4, hst4⟩
               have HN4 := Lib.hid hN4
               have HST := Lib.hid hst4
               have HROW := Lib.hid hrow
               have HBK := Lib.hid hbk
               clear hbk hrow hou hN4 hst4)
            | fail)
          have hbb : bb = [(m : Int)] := by
            have := HBK.out
            unfold pks at this
            rw [HRM.out] at this
            simpa using this.symm
          subst hbb
          obtain ⟨pa, pc, rfl, _, _, hp3⟩ := id HROW.out
          obtain ⟨pg, po, rfl, hpl, hpc⟩ := hp3 (by simp)
          have hcell : wd.cell? ⟨pg, po, none⟩ = some (.int .u8 (m : Int)) := hpc 0 0 _ _ rfl rfl
          have hKd : VarAt wd Kb 27 (last4 last3) := by
            unfold VarAt
            rw [HST.out.frame.block Kb HK3.out.lt (fun ho => (HN3.out.lt Kb ho).2 (.inr rfl))]
            exact HK3.out
          have hcK := hKd.cell (last4_at last3 hk44)
          have hfK := hKd.free k4
          have hBD : Below w.heap.size w wd := HB3.out.trans (HST.out.below (fun j hj => Nat.not_lt.1 (fun h => (HN3.out.lt j hj).2 (.inl h))) HB3.out.size)
          have hcmd : wd.cell? ⟨b, o + m, none⟩ = some (.int .u8 (lm : Int)) := by rw [hBD.cell (p := ⟨b, o + m, none⟩) hbl]; exact HCM.out
          have hbld : b < wd.heap.size := Nat.lt_of_lt_of_le hbl hBD.size
          have hkd4 : (k4 : Int) < 4 := by omega
          have hle : decide ((m : Int) ≤ last3 k4) = false := decide_eq_false (by omega)
          have hwm := wrap_nat m (by omega)
          have hwl := wrap_nat lm (by omega)
          have hm1 : ((m : Int).tmod 64) = (m : Int) := by have := tmod_nat m 64; rw [Nat.mod_eq_of_lt (by omega)] at this; exact this
          have hm2 : ((m : Int) % 64) = (m : Int) := by omega
          have hmb : (m : Int) < (ns.length : Int) := by omega
          have hl1 : ((lm : Int).tmod 4) = (k4 : Int) := by rw [← HMOD.out]; exact tmod_nat lm 4
          have hl2 : ((lm : Int) % 4) = (k4 : Int) := by rw [← HMOD.out]; exact (Int.natCast_emod lm 4).symm
          have hKL := hKd.lt
          have HKD := Lib.hid hKd
          have HBD := Lib.hid hBD
          clear hKd hBD hpc hp3 HROW
          go_quiet (fail)
          go_wp2
          go_tidy
          have hN4 := HN4.out
          rw [pks_take] at hN4
          have hK4 := (HKD.out.drewN nq).set k4 (.int .i64 (m : Int))
          rw [last4_set last3 hk44 (m : Int)] at hK4
          have hF4 : Frame (fun j => j ≠ Kb) wd ((wd.drewN nq).setCell ⟨Kb, k4, none⟩ (.int .i64 (m : Int))) :=
            ⟨rfl, rfl, rfl, by simp, fun j _ h => Below.heap_setCell (wd.drewN nq) ⟨Kb, k4, none⟩ (.int .i64 (m : Int)) j h⟩
          refine ⟨⟨j + 1, by omega, rfl, s4, _, _, hN4.keep hF4 (fun j _ hz => ⟨fun e => hz (.inr e), hz⟩), (below_drewN HBD.out nq).setCell (p := ⟨Kb, k4, none⟩) hwrs _, hK4, HL4.out⟩, by simp [intOf]; omega⟩
        · obtain rfl : j = ns.length := by omega
          have HN3 := Lib.hid hN3
          have HB3 := Lib.hid hb3
          have hz := fun k => hL3.done k
          have HZ := Lib.hid hz
          clear hN3 hb3 hK3 hL3 hz
          go_wp2_with (first
            | (go_at_call 12
               refine (c12 HN3.out (by omega)).mono ?_
               rintro e wc ⟨ks, rfl, h1, h2, _, hbc⟩
               rw [no_total h2 (fun k => by unfold pks; rw [HZ.out k]; rfl)])
            | fail)
          go_tidy
          exact ⟨rfl, HB3.out.trans (hbc.mono HB3.out.size)⟩
theorem c3long (a : Option Addr) (n cap : Nat) (w : World) (hlen : 60 < n) : Calls Try.prog 3 #[.slice a n cap] w fun e w' => e = .returned (.bool true) ∧ Below w.heap.size w w' := by
  refine gen fun R hR => ?_
  have hlen2 : 60 < (n : Int) := by omega
  go_enter Try.func3, Try.ntmps3
  go_wp2_with (first
    | (go_at_call 8
       (with_reducible refine (c8 w).mono ?_)
       rintro e w1 ⟨rfl, hb1⟩)
    | (go_at_call 8
       (with_reducible refine (c8 _).mono ?_)
       rintro e w2 ⟨rfl, hb2⟩)
    | fail)
  go_tidy
  exact ⟨rfl, hb1.trans (hb2.mono hb1.size)⟩
theorem nats : ∀ xs : List Int, (∀ x ∈ xs, (Lit.int .u8 x).wf = true) → ∃ ns : List Nat, xs = (ns.map fun m : Nat => (m : Int)) ∧ ∀ m ∈ ns, m < 256
  | [], _ => ⟨[], rfl, by simp⟩
  | x :: xs, h => by
    obtain ⟨ns, hn, hb⟩ := nats xs (fun y hy => h y (List.mem_cons_of_mem _ hy))
    have hx := h x (List.mem_cons_self ..)
    simp [Lit.wf, IntKind.min, IntKind.max, IntKind.signed, IntKind.bits] at hx
    refine ⟨x.toNat :: ns, by rw [List.map_cons, ← hn]; congr 1; omega, fun m hm => ?_⟩
    rcases List.mem_cons.1 hm with rfl | hm
    · omega
    · exact hb m hm
theorem orderWalk (v0 : Value) (w : World) (a0 : ArgAt Try.prog 22 v0 w) : Calls Try.prog 3 #[v0] w fun e w' => e = .returned (.bool true) ∧ Below w.heap.size w w' := by
  obtain ⟨v, xs, hx, he, hr⟩ := a0.slice Try.underlying22 fun _ E => opensBytes E w
  simp at he
  subst he
  obtain ⟨ns, rfl, hb⟩ := nats xs hx
  obtain ⟨a, cap, hv, _⟩ := id hr
  simp only [List.length_map] at hv
  rcases Nat.lt_or_ge 60 ns.length with h | h
  · rw [hv]; exact c3long a ns.length cap w h
  · rw [hv] at hr ⊢
    refine c3 a cap ns w hr (fun i => ?_) h
    unfold byt
    rw [List.getD_eq_getElem?_getD]
    cases hi : ns[i]? with
    | none => simp
    | some m => simpa using hb m (List.mem_of_getElem? hi)
end Go.Proofs.Ytkkambhkfegodaa
