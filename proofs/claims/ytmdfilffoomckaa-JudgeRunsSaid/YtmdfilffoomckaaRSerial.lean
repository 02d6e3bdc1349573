/- The reference: Serial. Conditions: each law's own. -/
import Derived.Test.YtmdfilffoomckaaRSingle
namespace Go.Proofs.Ytmdfilffoomckaa
open Go.ChangeShapes Go.WideShapes Go.ChangeAt Go.RowKit

theorem RowOf.seenAt {w : World} {a : Option Addr} {n cap : Nat} {ds : List SeenD} (h : RowOf encSeen 6 w (.slice a n cap) ds) {i : Nat} (hi : i < ds.length) :
    ∃ b o d, a = some ⟨b, o, none⟩ ∧ b < w.heap.size ∧ ds[i]? = some d ∧ w.cell? ⟨b, o + i * 6, none⟩ = some (.int .i64 d.id.s) ∧ w.cell? ⟨b, o + i * 6 + 1, none⟩ = some (.int .i64 d.id.q) ∧ w.cell? ⟨b, o + i * 6 + 2, none⟩ = some (.string d.key) ∧
      w.cell? ⟨b, o + i * 6 + 3, none⟩ = some (.int .i64 d.val.kind) ∧ w.cell? ⟨b, o + i * 6 + 4, none⟩ = some (.int .u64 d.val.bits) ∧ w.cell? ⟨b, o + i * 6 + 5, none⟩ = some (.string d.val.text) := by
  obtain ⟨a', cap', hv, h1, h2, h3⟩ := h
  cases hv
  obtain ⟨b, o, rfl, hlt, hc⟩ := h3 (by omega)
  have hp : ds[i]? = some ds[i] := List.getElem?_eq_getElem hi
  exact ⟨b, o, ds[i], rfl, hlt, hp, hc i 0 _ _ hp rfl, hc i 1 _ _ hp rfl, hc i 2 _ _ hp rfl, hc i 3 _ _ hp rfl, hc i 4 _ _ hp rfl, hc i 5 _ _ hp rfl⟩
theorem VarAt.drew {w : World} {b : Nat} {T : TypeId} {cs : List Value} (h : VarAt w b T cs) : VarAt w.drew b T cs := h
structure SerS (B b o : Nat) (s1 q1 : Int) (key : ByteArray) (c0 c1 c2 : Value) (W : World) : Prop where
  h0 : W.cell? ⟨B, 0, none⟩ = some c0
  h1 : W.cell? ⟨B, 1, none⟩ = some c1
  h2 : W.cell? ⟨B, 2, none⟩ = some c2
  d0 : W.cell? ⟨b, o, none⟩ = some (.int .i64 s1)
  d1 : W.cell? ⟨b, o + 1, none⟩ = some (.int .i64 q1)
  d2 : W.cell? ⟨b, o + 2, none⟩ = some (.string key)
def SerRel (ds : List DoneD) (l : List SeenD) (W1 : World) (i : Value) (wr : World) : Prop := ∃ m : Nat, m ≤ l.length ∧ i = .int .i64 m ∧ (∀ (k : Nat) s, k < m → l[k]? = some s → seenOk ds s) ∧ Below W1.heap.size W1 wr
theorem serial_all {ds : List DoneD} {l : List SeenD} (h : ∀ (k : Nat) s, k < l.length → l[k]? = some s → seenOk ds s) : Serial ds l := fun s hs => by
  obtain ⟨k, hk⟩ := List.getElem?_of_mem hs
  exact h k s (List.getElem?_eq_some_iff.1 hk).1 hk
set_option maxHeartbeats 8000000 in
set_option maxRecDepth 100000 in
theorem c21 {w : World} {h : HistD} (ok : HistOk w h) (hl : h.done.length ≤ 30) : Calls Try.prog 21 #[h.agg] w (TellEnd (Serial h.done h.seen) w) := by
  refine gen (S := TellEnd (Serial h.done h.seen) w) fun R hR => ?_
  have h13 := fun W (hb : Below w.heap.size w W) id key => c13 (ok.keep hb) hl id key
  obtain ⟨ds, seen, snaps, da, dc, sa, sc, na, nc⟩ := h
  have hrow := ok.2.1
  simp only [HistD.agg, HistD.dv, HistD.sv, HistD.nv, IdD.agg] at hrow hR h13 hl ⊢
  have hln : seen.length ≤ maxLen := hrow.len
  unfold maxLen at hln
  clear ok
  have HROW := Lib.hid hrow
  have H13 := Lib.hid h13
  clear hrow h13
  go_enter Try.func21, Try.ntmps21
  go_wp2
  generalize hW : (w.alloc (.cells #[.slice da ds.length dc, .slice sa seen.length sc, .slice na snaps.length nc] 34)) = W1
  have hb1 : Below w.heap.size w W1 := by rw [← hW]; exact below1 _ _
  have hK : VarAt W1 w.heap.size 34 [.slice da ds.length dc, .slice sa seen.length sc, .slice na snaps.length nc] := by rw [← hW]; exact VarAt.new w 34 _
  have H1 := Lib.hid (HROW.out.keep hb1)
  have HB1 := Lib.hid hb1
  have HK := Lib.hid hK
  have hw1 : w.heap.size < W1.heap.size := hK.lt
  clear hW hb1 hK
  go_loopw [3] (fun i wr => SerRel ds seen W1 i wr) (fun i _ => seen.length - (intOf i).toNat)
  case atStart => exact ⟨0, by omega, rfl, fun k d hk => by omega, Below.refl _ _⟩
  case round =>
    obtain ⟨i, hi, rfl, hs, hbr⟩ := hrel
    have hKr := HK.out.keep hbr hw1
    have hc0 := hKr.cell (j := 0) rfl
    have hc1 := hKr.cell (j := 1) rfl
    have hc2 := hKr.cell (j := 2) rfl
    have hwr : w.heap.size < wr.heap.size := hKr.lt
    have HS := Lib.hid hs
    have HBR := Lib.hid hbr
    clear hs
    rcases Nat.lt_or_ge i seen.length with hlt | hge
    · obtain ⟨b, o, d, rfl, hbl, hd, hi0, hi1, hi2, hi3, hi4, hi5⟩ := H1.out.seenAt hlt
      rw [← hbr.cell (p := ⟨b, o + i * 6, none⟩) hbl] at hi0
      rw [← hbr.cell (p := ⟨b, o + i * 6 + 1, none⟩) hbl] at hi1
      rw [← hbr.cell (p := ⟨b, o + i * 6 + 2, none⟩) hbl] at hi2
      rw [← hbr.cell (p := ⟨b, o + i * 6 + 3, none⟩) hbl] at hi3
      rw [← hbr.cell (p := ⟨b, o + i * 6 + 4, none⟩) hbl] at hi4
      rw [← hbr.cell (p := ⟨b, o + i * 6 + 5, none⟩) hbl] at hi5
      have hbr2 : b < wr.heap.size := Nat.lt_of_lt_of_le hbl hbr.size
      obtain ⟨⟨s1, q1⟩, key, v⟩ := d
      simp only at hi0 hi1 hi2 hi3 hi4 hi5
      have hiI : (i : Int) < (seen.length : Int) := by omega
      have HD := Lib.hid hd
      clear hd hbr hKr
      have sk : ∀ W, Below wr.heap.size wr W → SerS w.heap.size b (o + i * 6) s1 q1 key (.slice da ds.length dc) (.slice (some ⟨b, o, none⟩) seen.length sc) (.slice na snaps.length nc) W := fun W hb =>
        ⟨by rw [hb.cell (p := ⟨w.heap.size, 0, none⟩) hwr]; exact hc0, by rw [hb.cell (p := ⟨w.heap.size, 1, none⟩) hwr]; exact hc1, by rw [hb.cell (p := ⟨w.heap.size, 2, none⟩) hwr]; exact hc2,
          by rw [hb.cell (p := ⟨b, o + i * 6, none⟩) hbr2]; exact hi0, by rw [hb.cell (p := ⟨b, o + i * 6 + 1, none⟩) hbr2]; exact hi1, by rw [hb.cell (p := ⟨b, o + i * 6 + 2, none⟩) hbr2]; exact hi2⟩
      have h13 : ∀ W, Below wr.heap.size wr W → Calls Try.prog 13 #[.agg #[.slice da ds.length dc, .slice (some ⟨b, o, none⟩) seen.length sc, .slice na snaps.length nc], .agg #[.int .i64 s1, .int .i64 q1], .string key] W fun e w' => e = .returned (aheadV (ahead ⟨s1, q1⟩ key zeroVal (wit ds))) ∧ Below wr.heap.size wr w' ∧ Below W.heap.size W w' := fun W hb =>
        (H13.out W ((HB1.out.trans (HBR.out.mono HB1.out.size)).trans (hb.mono (by have := HB1.out.size; have := HBR.out.size; omega))) ⟨s1, q1⟩ key).mono fun e w' ⟨h1, h2⟩ => ⟨h1, hb.trans (h2.mono hb.size), h2⟩
      have hsq : seenOk ds ⟨⟨s1, q1⟩, key, v⟩ ↔ ∀ u, ahead ⟨s1, q1⟩ key zeroVal (wit ds) = some u → u = v := Iff.rfl
      generalize ahead ⟨s1, q1⟩ key zeroVal (wit ds) = ov at h13 hsq
      unfold aheadV at h13
      generalize hu : ov.getD zeroVal = u at h13
      generalize hob : ov.isSome = ob at h13
      have HU := Lib.hid hu
      have HOB := Lib.hid hob
      clear hu hob
      have HSK := Lib.hid sk
      have HCL := Lib.hid h13
      have HSQ := Lib.hid hsq
      have hS0 : Below wr.heap.size wr wr := Below.refl _ _
      have hS1 : Below wr.heap.size wr (wr.alloc (.cells (encVal zeroVal).toArray 47)).drew := (hS0.alloc (Nat.le_refl _) _).drew
      clear sk h13 hsq
      go_upto_region 4 with fail
      go_cut [4, 5] (fun p okv wx => ∃ g : Nat, p = .pointer (some ⟨g, 0, none⟩) ∧ okv = .bool ob ∧ VarAt wx g 47 (encVal u) ∧ Below wr.heap.size wr wx ∧ wr.heap.size ≤ g)
      case first =>
        refine wp_region_noPanic ?_
        refine till_start (SerS w.heap.size b (o + i * 6) s1 q1 key (.slice da ds.length dc) (.slice (some ⟨b, o, none⟩) seen.length sc) (.slice na snaps.length nc)) 19 (by kernel_rfl) ?_
        have hS := HSK.out wr.drew hS0.drew
        show AnyTill _ _ _ _ _ _ 20 (Array.replicate 20 false) _ _
        refine till_take 0 (v := ?_) rfl (by kernel_rfl) (fun _ _ _ h => h) (Or.inl ⟨by rfl, ?_⟩) hS ?_
        rotate_left
        focus (intro w' hSw; obtain ⟨hs0, hs1, hs2, hs3, hs4, hs5⟩ := hSw; go_simp; try (with_reducible rfl))
        try simp only [Act.put, List.setIfInBounds_toArray, List.set_cons_zero, List.set_cons_succ]
        refine till_take 1 (v := ?_) rfl (by kernel_rfl) (fun _ _ _ h => h) (Or.inl ⟨by rfl, ?_⟩) hS ?_
        rotate_left
        focus (intro w' hSw; obtain ⟨hs0, hs1, hs2, hs3, hs4, hs5⟩ := hSw; go_simp; try (with_reducible rfl))
        try simp only [Act.put, List.setIfInBounds_toArray, List.set_cons_zero, List.set_cons_succ]
        refine till_take 2 (v := ?_) rfl (by kernel_rfl) (fun _ _ _ h => h) (Or.inl ⟨by rfl, ?_⟩) hS ?_
        rotate_left
        focus (intro w' hSw; obtain ⟨hs0, hs1, hs2, hs3, hs4, hs5⟩ := hSw; go_simp; try (with_reducible rfl))
        try simp only [Act.put, List.setIfInBounds_toArray, List.set_cons_zero, List.set_cons_succ]
        refine till_take 3 (v := ?_) rfl (by kernel_rfl) (fun _ _ _ h => h) (Or.inl ⟨by rfl, ?_⟩) hS ?_
        rotate_left
        focus (intro w' hSw; obtain ⟨hs0, hs1, hs2, hs3, hs4, hs5⟩ := hSw; go_simp; try (with_reducible rfl))
        try simp only [Act.put, List.setIfInBounds_toArray, List.set_cons_zero, List.set_cons_succ]
        refine till_take 4 (v := ?_) rfl (by kernel_rfl) (fun _ _ _ h => h) (Or.inl ⟨by rfl, ?_⟩) hS ?_
        rotate_left
        focus (intro w' hSw; obtain ⟨hs0, hs1, hs2, hs3, hs4, hs5⟩ := hSw; go_simp; try (with_reducible rfl))
        try simp only [Act.put, List.setIfInBounds_toArray, List.set_cons_zero, List.set_cons_succ]
        refine till_take 5 (v := ?_) rfl (by kernel_rfl) (fun _ _ _ h => h) (Or.inl ⟨by rfl, ?_⟩) hS ?_
        rotate_left
        focus (intro w' hSw; obtain ⟨hs0, hs1, hs2, hs3, hs4, hs5⟩ := hSw; go_simp; try (with_reducible rfl))
        try simp only [Act.put, List.setIfInBounds_toArray, List.set_cons_zero, List.set_cons_succ]
        refine till_take 6 (v := ?_) rfl (by kernel_rfl) (fun _ _ _ h => h) (Or.inl ⟨by rfl, ?_⟩) hS ?_
        rotate_left
        focus (intro w' hSw; obtain ⟨hs0, hs1, hs2, hs3, hs4, hs5⟩ := hSw; go_simp; try (with_reducible rfl))
        try simp only [Act.put, List.setIfInBounds_toArray, List.set_cons_zero, List.set_cons_succ]
        refine till_take 7 (v := ?_) rfl (by kernel_rfl) (fun _ _ _ h => h) (Or.inl ⟨by rfl, ?_⟩) hS ?_
        rotate_left
        focus (intro w' hSw; obtain ⟨hs0, hs1, hs2, hs3, hs4, hs5⟩ := hSw; go_simp; try (with_reducible rfl))
        try simp only [Act.put, List.setIfInBounds_toArray, List.set_cons_zero, List.set_cons_succ]
        refine till_take 8 (v := ?_) rfl (by kernel_rfl) (fun _ _ _ h => h) (Or.inl ⟨by rfl, ?_⟩) hS ?_
        rotate_left
        focus (intro w' hSw; obtain ⟨hs0, hs1, hs2, hs3, hs4, hs5⟩ := hSw; go_simp; try (with_reducible rfl))
        try simp only [Act.put, List.setIfInBounds_toArray, List.set_cons_zero, List.set_cons_succ]
        refine till_take 9 (v := ?_) rfl (by kernel_rfl) (fun _ _ _ h => h) (Or.inl ⟨by rfl, ?_⟩) hS ?_
        rotate_left
        focus (intro w' hSw; obtain ⟨hs0, hs1, hs2, hs3, hs4, hs5⟩ := hSw; go_simp; try (with_reducible rfl))
        try simp only [Act.put, List.setIfInBounds_toArray, List.set_cons_zero, List.set_cons_succ]
        refine till_take 10 (v := ?_) rfl (by kernel_rfl) (fun _ _ _ h => h) (Or.inl ⟨by rfl, ?_⟩) hS ?_
        rotate_left
        focus (intro w' hSw; obtain ⟨hs0, hs1, hs2, hs3, hs4, hs5⟩ := hSw; go_simp; try (with_reducible rfl))
        try simp only [Act.put, List.setIfInBounds_toArray, List.set_cons_zero, List.set_cons_succ]
        refine till_take 11 (v := ?_) rfl (by kernel_rfl) (fun _ _ _ h => h) (Or.inl ⟨by rfl, ?_⟩) hS ?_
        rotate_left
        focus (intro w' hSw; obtain ⟨hs0, hs1, hs2, hs3, hs4, hs5⟩ := hSw; go_simp; try (with_reducible rfl))
        try simp only [Act.put, List.setIfInBounds_toArray, List.set_cons_zero, List.set_cons_succ]
        refine till_take 12 (v := ?_) rfl (by kernel_rfl) (fun _ _ _ h => h) (Or.inl ⟨by rfl, ?_⟩) hS ?_
        rotate_left
        focus (intro w' hSw; obtain ⟨hs0, hs1, hs2, hs3, hs4, hs5⟩ := hSw; go_simp; try (with_reducible rfl))
        try simp only [Act.put, List.setIfInBounds_toArray, List.set_cons_zero, List.set_cons_succ]
        refine till_ready [13, 17] (by kernel_rfl) (TillReady.cons 13 rfl (fun K hK => ?_) (TillReady.cons 17 rfl (fun K hK => ?_) TillReady.nil))
        · go_simp
          refine (HCL.out wr.drew hS0.drew).mono ?_
          rintro e w5 ⟨rfl, hb5, -⟩
          clear hS
          have hS := HSK.out w5 hb5
          refine (Hid.out hK) _ _ (fun _ => hS) ?_
          try simp only [Act.put, List.setIfInBounds_toArray, List.set_cons_zero, List.set_cons_succ]
          refine till_take 14 (v := ?_) rfl (by kernel_rfl) (fun _ _ _ h => h) (Or.inl ⟨by rfl, ?_⟩) hS ?_
          rotate_left
          focus (intro w' hSw; obtain - := hSw; go_simp; try (with_reducible rfl))
          try simp only [Act.put, List.setIfInBounds_toArray, List.set_cons_zero, List.set_cons_succ]
          refine till_take 15 (v := ?_) rfl (by kernel_rfl) (fun _ _ _ h => h) (Or.inl ⟨by rfl, ?_⟩) hS ?_
          rotate_left
          focus (intro w' hSw; obtain - := hSw; go_simp; try (with_reducible rfl))
          try simp only [Act.put, List.setIfInBounds_toArray, List.set_cons_zero, List.set_cons_succ]
          refine till_take 16 (v := ?_) rfl (by kernel_rfl) (fun _ _ _ h => h) (Or.inl ⟨by rfl, ?_⟩) hS ?_
          rotate_left
          focus (intro w' hSw; obtain - := hSw; go_simp; try (with_reducible rfl))
          try simp only [Act.put, List.setIfInBounds_toArray, List.set_cons_zero, List.set_cons_succ]
          refine till_ready [17] (by kernel_rfl) (TillReady.cons 17 rfl (fun K hK => ?_) TillReady.nil)
          go_simp
          have hb6 := hb5.alloc hb5.size (.cells (encVal zeroVal).toArray 47)
          have hS := HSK.out _ hb6
          refine (Hid.out hK) _ _ (fun _ => hS) ?_
          try simp only [Act.put, List.setIfInBounds_toArray, List.set_cons_zero, List.set_cons_succ]
          refine till_ready [18] (by kernel_rfl) (TillReady.cons 18 rfl (fun K hK => ?_) TillReady.nil)
          go_simp
          have hb7 := hb5.alloc hb5.size (.cells (encVal u).toArray 47)
          have hS := HSK.out _ hb7
          refine (Hid.out hK) _ _ (fun _ => hS) ?_
          try simp only [Act.put, List.setIfInBounds_toArray, List.set_cons_zero, List.set_cons_succ]
          refine till_ready [19] (by kernel_rfl) (TillReady.cons 19 rfl (fun K hK => ?_) TillReady.nil)
          go_simp
          refine (Hid.out hK) _ _ (fun h => absurd rfl h) ?_
          refine till_done (by kernel_rfl) ?_
          refine NoPanic.normal ?_
          go_wp2
          go_meet
          exact ⟨_, rfl, rfl, VarAt.new w5 47 (encVal u), hb7, hb5.size⟩
        · go_simp
          clear hS
          have hS := HSK.out _ hS1
          refine (Hid.out hK) _ _ (fun _ => hS) ?_
          try simp only [Act.put, List.setIfInBounds_toArray, List.set_cons_zero, List.set_cons_succ]
          refine till_ready [13] (by kernel_rfl) (TillReady.cons 13 rfl (fun K hK => ?_) TillReady.nil)
          go_simp
          refine (HCL.out (wr.alloc (.cells (encVal zeroVal).toArray 47)).drew hS1).mono ?_
          rintro e w5 ⟨rfl, hb5, hb6⟩
          clear hS
          have hS := HSK.out w5 hb5
          have hn := VarAt.keep (VarAt.new wr 47 (encVal zeroVal)).drew hb6 (by simp)
          have n0 := hn.cell (j := 0) rfl
          have n1 := hn.cell (j := 1) rfl
          have n2 := hn.cell (j := 2) rfl
          have k0 := hn.free 0
          have k1 := hn.free 1
          have k2 := hn.free 2
          have hl5 := hn.lt
          have HN := Lib.hid hn
          clear hn hb6
          refine (Hid.out hK) _ _ (fun _ => hS) ?_
          try simp only [Act.put, List.setIfInBounds_toArray, List.set_cons_zero, List.set_cons_succ]
          refine till_take 14 (v := ?_) rfl (by kernel_rfl) (fun _ _ _ h => h) (Or.inl ⟨by rfl, ?_⟩) hS ?_
          rotate_left
          focus (intro w' hSw; obtain - := hSw; go_simp; try (with_reducible rfl))
          try simp only [Act.put, List.setIfInBounds_toArray, List.set_cons_zero, List.set_cons_succ]
          refine till_take 15 (v := ?_) rfl (by kernel_rfl) (fun _ _ _ h => h) (Or.inl ⟨by rfl, ?_⟩) hS ?_
          rotate_left
          focus (intro w' hSw; obtain - := hSw; go_simp; try (with_reducible rfl))
          try simp only [Act.put, List.setIfInBounds_toArray, List.set_cons_zero, List.set_cons_succ]
          refine till_take 16 (v := ?_) rfl (by kernel_rfl) (fun _ _ _ h => h) (Or.inl ⟨by rfl, ?_⟩) hS ?_
          rotate_left
          focus (intro w' hSw; obtain - := hSw; go_simp; try (with_reducible rfl))
          try simp only [Act.put, List.setIfInBounds_toArray, List.set_cons_zero, List.set_cons_succ]
          refine till_ready [18] (by kernel_rfl) (TillReady.cons 18 rfl (fun K hK => ?_) TillReady.nil)
          go_simp
          have hb7 : Below wr.heap.size wr (((w5.setCell ⟨wr.heap.size, 0, none⟩ (.int .i64 u.kind)).setCell ⟨wr.heap.size, 1, none⟩ (.int .u64 u.bits)).setCell ⟨wr.heap.size, 2, none⟩ (.string u.text)) := ((hb5.setCell (Nat.le_refl _) _).setCell (Nat.le_refl _) _).setCell (Nat.le_refl _) _
          have hS := HSK.out _ hb7
          refine (Hid.out hK) _ _ (fun _ => hS) ?_
          try simp only [Act.put, List.setIfInBounds_toArray, List.set_cons_zero, List.set_cons_succ]
          refine till_ready [19] (by kernel_rfl) (TillReady.cons 19 rfl (fun K hK => ?_) TillReady.nil)
          go_simp
          refine (Hid.out hK) _ _ (fun h => absurd rfl h) ?_
          refine till_done (by kernel_rfl) ?_
          refine NoPanic.normal ?_
          go_wp2
          go_meet
          exact ⟨_, rfl, rfl, ((HN.out.set 0 (.int .i64 u.kind)).set 1 (.int .u64 u.bits)).set 2 (.string u.text), hb7, Nat.le_refl _⟩
      case rest =>
        obtain ⟨g, rfl, rfl, hv, hbx, hg⟩ := hcut
        have v0 := hv.cell (j := 0) rfl
        have v1 := hv.cell (j := 1) rfl
        have v2 := hv.cell (j := 2) rfl
        have hgl := hv.lt
        have r1 : wc.cell? ⟨w.heap.size, 1, none⟩ = some (.slice (some ⟨b, o, none⟩) seen.length sc) := by rw [hbx.cell (p := ⟨w.heap.size, 1, none⟩) hwr]; exact hc1
        have r3 : wc.cell? ⟨b, o + i * 6 + 3, none⟩ = some (.int .i64 v.kind) := by rw [hbx.cell (p := ⟨b, o + i * 6 + 3, none⟩) hbr2]; exact hi3
        have r4 : wc.cell? ⟨b, o + i * 6 + 4, none⟩ = some (.int .u64 v.bits) := by rw [hbx.cell (p := ⟨b, o + i * 6 + 4, none⟩) hbr2]; exact hi4
        have r5 : wc.cell? ⟨b, o + i * 6 + 5, none⟩ = some (.string v.text) := by rw [hbx.cell (p := ⟨b, o + i * 6 + 5, none⟩) hbr2]; exact hi5
        have next : seenOk ds ⟨⟨s1, q1⟩, key, v⟩ → ∀ n, SerRel ds seen W1 (.int .i64 ((i : Int) + 1)) (wc.drewN n) := fun ha n => ⟨i + 1, by omega, rfl, fun k y hk hy => by
          rcases Nat.lt_or_ge k i with h1 | h1
          · exact HS.out k y h1 hy
          · obtain rfl : k = i := by omega
            rw [HD.out] at hy; cases hy; exact ha, below_drewN (HBR.out.trans (hbx.mono HBR.out.size)) n⟩
        have HNX := Lib.hid next
        have HBX := Lib.hid (HB1.out.trans ((HBR.out.trans (hbx.mono HBR.out.size)).mono HB1.out.size))
        have hne := neq47 u v
        simp only [ValD.agg] at hne
        clear next hbx hv hc0 hc1 hc2 hi0 hi1 hi2 hi3 hi4 hi5
        cases ob with
        | false =>
          clear hne
          go_wp2
          go_quiet (fail)
          go_wp2
          go_tidy
          refine ⟨HNX.out (HSQ.out.2 fun x hx => ?_) _, by simp [intOf]; omega⟩
          rw [hx] at HOB; exact absurd HOB.out (by simp)
        | true =>
          by_cases huv : u = v
          · subst huv
            rw [decide_eq_true rfl] at hne
            simp only [Bool.not_true] at hne
            go_wp2
            go_quiet (fail)
            go_wp2
            go_tidy
            refine ⟨HNX.out (HSQ.out.2 fun x hx => ?_) _, by simp [intOf]; omega⟩
            have := HU.out; rw [hx] at this; exact this
          · rw [decide_eq_false huv] at hne
            simp only [Bool.not_false] at hne
            have HUV := Lib.hid huv
            clear huv
            go_wp2
            go_quiet (fail)
            go_wp2
            go_tidy
            refine TellEnd.no (fun hall => ?_) (below_drewN HBX.out _)
            have h1 := HSQ.out.1 (hall _ (List.mem_of_getElem? HD.out))
            cases hov : ov with
            | none => have := HOB.out; rw [hov] at this; cases this
            | some x =>
              have := HU.out; rw [hov] at this
              exact HUV.out (this ▸ h1 x hov)
    · obtain rfl : i = seen.length := by omega
      have HE := Lib.hid (serial_all HS.out)
      go_wp2
      go_tidy
      exact TellEnd.yes HE.out (HB1.out.trans (HBR.out.mono HB1.out.size))
end Go.Proofs.Ytmdfilffoomckaa
