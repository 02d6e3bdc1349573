/- The law NetFull's walk. Conditions: each law's own. -/
import Derived.Test.YtkkambhkfegodaaDouble
import Derived.Test.YtkkambhkfegodaaNil
namespace Go.Proofs.Ytkkambhkfegodaa
open Go.ChangeShapes Go.WideShapes Go.ChangeAt Go.RowKit

/-- The first j packets: one byte each. -/
def pk (j : Nat) : List (List Int) := (List.range j).map fun m : Nat => [(m : Int)]
theorem pk_len (j : Nat) : (pk j).length = j := by simp [pk]
theorem pk_succ (j : Nat) : pk (j + 1) = pk j ++ [[(j : Int)]] := by simp [pk, List.range_succ]
theorem pk_at {j i : Nat} {b : List Int} (h : (pk j)[i]? = some b) : b = [(i : Int)] := by
  unfold pk at h
  rw [List.getElem?_map] at h
  cases hr : (List.range j)[i]? with
  | none => rw [hr] at h; cases h
  | some m =>
    rw [hr] at h
    have hi : i < j := by have := (List.getElem?_eq_some_iff.1 hr).1; simpa using this
    have : m = i := by rw [List.getElem?_range hi] at hr; injection hr with hr; exact hr.symm
    subst this
    simpa using h.symm
theorem row_byte (W : World) (n : Int) : RowOf encB 1 (W.alloc (.cells #[.int .u8 n] 5)) (.slice (some ⟨W.heap.size, 0, none⟩) 1 1) [n] :=
  ⟨_, 1, rfl, by simp, by simp [maxLen], fun _ => ⟨W.heap.size, 0, rfl, by simp, fun i j x u hx hu => by
    have hi : i = 0 := by have := (List.getElem?_eq_some_iff.1 hx).1; simp at this; exact this
    subst hi
    simp at hx; subst hx
    have hj : j = 0 := by have := (List.getElem?_eq_some_iff.1 hu).1; simp [encB] at this; exact this
    subst hj
    simp [encB] at hu; subst hu
    exact (VarAt.new W 5 [.int .u8 n]).cell (j := 0) rfl⟩⟩
/-- A law's network: nothing of what was there is written, and the network lies in memory of the law's own. -/
def LawNet (w : World) (x : Nat) (B : Key → List (List Int)) (N : Nat) (wr : World) : Prop := ∃ s, NetAt wr x s B (fun j => j < w.heap.size) N ∧ Below w.heap.size w wr
theorem LawNet.step {w w1 w2 : World} {x N M : Nat} {s s' : NS} {B B' : Key → List (List Int)} (h : NetAt w1 x s B (fun j => j < w.heap.size) N) (hb : Below w.heap.size w w1) (h2 : NetAt w2 x s' B' (fun j => j < w.heap.size) M) (hs : Step w1 s w2 s') : LawNet w x B' M w2 :=
  ⟨s', h2, hb.trans (hs.below (fun j hj => Nat.not_lt.1 (h.lt j hj).2) hb.size)⟩
theorem LawNet.zlt {w wr : World} (hb : Below w.heap.size w wr) : ∀ j, j < w.heap.size → j < wr.heap.size := fun _ h => Nat.lt_of_lt_of_le h hb.size
def FullRel (w : World) (x : Nat) (f t : Int) (i : Value) (wr : World) : Prop := ∃ j : Nat, j ≤ 64 ∧ i = .int .i64 j ∧ LawNet w x (setB (fun _ => []) (f, t) (pk j)) j wr
theorem setB_setB (B : Key → List (List Int)) (k : Key) (p q : List (List Int)) : setB (setB B k p) k q = setB B k q := by
  funext k'; unfold setB; split <;> rfl
set_option maxHeartbeats 4000000 in
set_option maxRecDepth 100000 in
theorem c4 (f t : Int) (q : Nat) (hq : q < 256) (w : World) : Calls Try.prog 4 #[.int .i64 f, .int .i64 t, .int .u8 q] w fun e w' => e = .returned (.bool true) ∧ Below w.heap.size w w' := by
  refine gen fun R hR => ?_
  go_enter Try.func4, Try.ntmps4
  go_wp2_with (first
    | (go_at_call 8
       (with_reducible refine (c8 _).mono ?_)
       rintro e w1 ⟨rfl, hb8⟩)
    | (go_at_call 9; (with_reducible refine (c9 _).mono ?_); rintro e w' ⟨rfl, rfl⟩)
    | fail)
  have hn0 : LawNet w (w1.heap.size + 1) (fun _ => []) 0 ((w1.alloc (.map #[] 0)).alloc (.cells #[.map (some w1.heap.size)] 62)) :=
    ⟨newNS w1, NetAt.new w1 _ (LawNet.zlt hb8), (hb8.alloc hb8.size _).alloc (by have := hb8.size; simp; omega) _⟩
  go_loopw [8] (fun i wr => FullRel w (w1.heap.size + 1) f t i wr) (fun i _ => 64 - (intOf i).toNat)
  case atStart =>
    refine ⟨0, by omega, rfl, ?_⟩
    have : setB (fun _ => []) (f, t) (pk 0) = fun _ => [] := setB_self (fun _ => []) (f, t)
    rw [this]; exact hn0
  case round =>
    obtain ⟨j, hj, rfl, s, hN, hb⟩ := hrel
    rcases Nat.lt_or_ge j 64 with hlt | hge
    · have hjl : (j : Int) < 64 := by omega
      have hjw : IntKind.u8.wrap (j : Int) = j := by simp [IntKind.wrap, IntKind.signed, IntKind.bits]; omega
      have hlen : (setB (fun _ => []) (f, t) (pk j) (f, t)).length < 64 := by rw [setB_same, pk_len]; exact hlt
      have h10 := c10net (hN.alloc (.cells #[.int .u8 j] 5)) (LawNet.zlt (hb.alloc hb.size (.cells #[.int .u8 j] 5))) f t _ _ (row_byte wr j) (by simp) hlen
      have HN := Lib.hid hN
      have HB := Lib.hid hb
      clear hN hb
      go_wp2_with (first | (go_at_call 10; refine h10.mono ?_; rintro e w2 ⟨rfl, s2, hN2, hst2⟩) | fail)
      go_tidy
      rw [setB_same, setB_setB, ← pk_succ] at hN2
      exact ⟨⟨j + 1, by omega, rfl, LawNet.step (HN.out.alloc _) (HB.out.alloc HB.out.size _) hN2 hst2⟩, by simp [intOf]; omega⟩
    · obtain rfl : j = 64 := by omega
      have hB64 : (setB (fun _ => []) (f, t) (pk 64) (f, t)).length = 64 := by rw [setB_same, pk_len]
      have h10 := c10full hN f t none 0 0 (by omega)
      have htm : ((q : Int).tmod 64) = ((q % 64 : Nat) : Int) := by
        rw [Int.tmod_eq_emod_of_nonneg (by omega)]; omega
      have hm64 : q % 64 < 64 := Nat.mod_lt _ (by decide)
      have HN := Lib.hid hN
      have HB := Lib.hid hb
      have H64 := Lib.hid hB64
      clear hN hb hB64
      go_wp2_with (first
        | (go_at_call 10
           refine h10.mono ?_
           rintro e wa ⟨rfl, hga⟩
           have hba : Below wr.heap.size wr wa := by obtain ⟨_, _, rfl⟩ := hga; exact Below.of_grow
           have HA := Lib.hid (HN.out.below hba)
           have HBA := Lib.hid (HB.out.trans (hba.mono HB.out.size))
           have h13 := c13full HA.out f t 0 (by rw [H64.out]; decide) (by rw [H64.out]; decide)
           clear hga hba)
        | (go_at_call 13
           refine h13.mono ?_
           rintro e wb ⟨rfl, hbb⟩
           have HNB := Lib.hid (HA.out.below hbb)
           have HBB := Lib.hid (HBA.out.trans (hbb.mono HBA.out.size))
           clear hbb)
        | (go_at_call 12
           refine (c12 HNB.out (by omega)).mono ?_
           rintro e wc ⟨ks, rfl, h1, h2, _, hbc⟩
           rw [one_link (f, t) h1 h2 (fun k hk => setB_other _ _ hk), H64.out]
           have HNC := Lib.hid (HNB.out.below hbc)
           have HBC := Lib.hid (HBB.out.trans (hbc.mono HBB.out.size))
           have h11 := c11 HNC.out (LawNet.zlt HBC.out) f t (q % 64) (by rw [H64.out]; exact hm64)
           clear hbc h1 h2)
        | (go_at_call 11
           refine h11.mono ?_
           rintro e wd ⟨pv, b, rfl, hbk, hrow, s2, hou, hN2, hst2⟩
           rw [setB_same] at hbk
           obtain rfl := pk_at hbk
           obtain ⟨pa, pc, rfl, hp1, hp2, hp3⟩ := id hrow
           obtain ⟨pg, po, rfl, hpl, hpc⟩ := hp3 (by simp)
           have hcell : wd.cell? ⟨pg, po, none⟩ = some (.int .u8 ((q % 64 : Nat) : Int)) := hpc 0 0 _ _ rfl rfl
           have H2 := Lib.hid hN2
           have HST := Lib.hid hst2
           have hl2 : (setB (setB (fun _ => []) (f, t) (pk 64)) (f, t) ((setB (fun _ => []) (f, t) (pk 64) (f, t)).eraseIdx (q % 64)) (f, t)).length = 63 := by
             rw [setB_same, List.length_eraseIdx, H64.out, if_pos hm64]
           have HBD := Lib.hid (HBC.out.trans (hst2.below (fun j hj => Nat.not_lt.1 (HNC.out.lt j hj).2) HBC.out.size))
           have h10b := c10net H2.out (LawNet.zlt HBD.out) f t (.slice none 0 0) [] (RowOf.nil _ _ _) (by simp) (by rw [hl2]; decide)
           have HL2 := Lib.hid hl2
           clear hbk hou hN2 hst2 hpc hrow hp1 hp2 hp3 hl2)
        | (go_at_call 10
           refine h10b.mono ?_
           rintro e we ⟨rfl, s3, hN3, hst3⟩
           have H3 := Lib.hid hN3
           have HBE := Lib.hid (HBD.out.trans (hst3.below (fun j hj => Nat.not_lt.1 (H2.out.lt j hj).2) HBD.out.size))
           clear hN3 hst3)
        | (go_at_call 12
           refine (c12 H3.out (by omega)).mono ?_
           rintro e wf ⟨ks2, rfl, h1, h2, _, hbf⟩
           rw [one_link (f, t) h1 h2 (fun k hk => by rw [setB_other _ _ hk, setB_other _ _ hk, setB_other _ _ hk]), setB_same, List.length_append, HL2.out]
           have HBF := Lib.hid (HBE.out.trans (hbf.mono HBE.out.size))
           clear hbf h1 h2)
        | fail)
      all_goals
        go_tidy
        first
          | exact HBF.out
          | exact ⟨rfl, HBF.out⟩
          | (simp_all; done)
theorem fullWalk (v0 v1 v2 : Value) (w : World) (a0 : ArgAt Try.prog 3 v0 w) (a1 : ArgAt Try.prog 3 v1 w) (a2 : ArgAt Try.prog 5 v2 w) : Calls Try.prog 4 #[v0, v1, v2] w fun e w' => e = .returned (.bool true) ∧ Below w.heap.size w w' := by
  obtain ⟨f, rfl, _⟩ := a0.int Try.underlying3
  obtain ⟨t, rfl, _⟩ := a1.int Try.underlying3
  obtain ⟨q, rfl, hq⟩ := a2.int Try.underlying5
  simp [Lit.wf, IntKind.min, IntKind.max, IntKind.signed, IntKind.bits] at hq
  have := c4 f t q.toNat (by omega) w
  rw [show ((q.toNat : Nat) : Int) = q by omega] at this
  exact this
end Go.Proofs.Ytkkambhkfegodaa
