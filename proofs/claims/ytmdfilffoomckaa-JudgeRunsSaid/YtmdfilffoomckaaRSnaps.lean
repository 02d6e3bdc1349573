/- The reference: Snapshots. Conditions: each law's own. -/
import Derived.Test.YtmdfilffoomckaaRSerial
namespace Go.Proofs.Ytmdfilffoomckaa
open Go.ChangeShapes Go.WideShapes Go.ChangeAt Go.RowKit

theorem RowOf.snapAt {w : World} {a : Option Addr} {n cap : Nat} {ds : List SnapD} (h : RowOf encSnap 5 w (.slice a n cap) ds) {i : Nat} (hi : i < ds.length) :
    ∃ b o d, a = some ⟨b, o, none⟩ ∧ b < w.heap.size ∧ ds[i]? = some d ∧ w.cell? ⟨b, o + i * 5, none⟩ = some (.int .i64 d.session) ∧ w.cell? ⟨b, o + i * 5 + 1, none⟩ = some (.int .u64 d.stamp) ∧ w.cell? ⟨b, o + i * 5 + 2, none⟩ = some (.int .u64 d.floor) ∧
      w.cell? ⟨b, o + i * 5 + 3, none⟩ = some d.kv ∧ w.cell? ⟨b, o + i * 5 + 4, none⟩ = some d.vv := by
  obtain ⟨a', cap', hv, h1, h2, h3⟩ := h
  cases hv
  obtain ⟨b, o, rfl, hlt, hc⟩ := h3 (by omega)
  have hp : ds[i]? = some ds[i] := List.getElem?_eq_getElem hi
  exact ⟨b, o, ds[i], rfl, hlt, hp, hc i 0 _ _ hp rfl, hc i 1 _ _ hp rfl, hc i 2 _ _ hp rfl, hc i 3 _ _ hp rfl, hc i 4 _ _ hp rfl⟩
theorem RowOf.strAt {w : World} {a : Option Addr} {n cap : Nat} {ds : List ByteArray} (h : RowOf encStr 1 w (.slice a n cap) ds) {i : Nat} (hi : i < ds.length) :
    ∃ b o d, a = some ⟨b, o, none⟩ ∧ b < w.heap.size ∧ ds[i]? = some d ∧ w.cell? ⟨b, o + i, none⟩ = some (.string d) := by
  obtain ⟨a', cap', hv, h1, h2, h3⟩ := h
  cases hv
  obtain ⟨b, o, rfl, hlt, hc⟩ := h3 (by omega)
  have hp : ds[i]? = some ds[i] := List.getElem?_eq_getElem hi
  have := hc i 0 _ _ hp rfl
  rw [Nat.mul_one, Nat.add_zero] at this
  exact ⟨b, o, ds[i], rfl, hlt, hp, this⟩
theorem RowOf.valAt {w : World} {a : Option Addr} {n cap : Nat} {ds : List ValD} (h : RowOf encVal 3 w (.slice a n cap) ds) {i : Nat} (hi : i < ds.length) :
    ∃ b o d, a = some ⟨b, o, none⟩ ∧ b < w.heap.size ∧ ds[i]? = some d ∧ w.cell? ⟨b, o + i * 3, none⟩ = some (.int .i64 d.kind) ∧ w.cell? ⟨b, o + i * 3 + 1, none⟩ = some (.int .u64 d.bits) ∧ w.cell? ⟨b, o + i * 3 + 2, none⟩ = some (.string d.text) := by
  obtain ⟨a', cap', hv, h1, h2, h3⟩ := h
  cases hv
  obtain ⟨b, o, rfl, hlt, hc⟩ := h3 (by omega)
  have hp : ds[i]? = some ds[i] := List.getElem?_eq_getElem hi
  exact ⟨b, o, ds[i], rfl, hlt, hp, hc i 0 _ _ hp rfl, hc i 1 _ _ hp rfl, hc i 2 _ _ hp rfl⟩
def SnpRel (ds : List DoneD) (l : List SnapD) (W1 : World) (i : Value) (wr : World) : Prop := ∃ m : Nat, m ≤ l.length ∧ i = .int .i64 m ∧ (∀ (k : Nat) s, k < m → l[k]? = some s → snapOk ds s) ∧ Below W1.heap.size W1 wr
def SnpIn (ds : List DoneD) (x : SnapD) (W1 : World) (i : Value) (wr : World) : Prop := ∃ m : Nat, m ≤ x.keys.length ∧ i = .int .i64 m ∧ (∀ (j : Nat) k v, j < m → x.keys[j]? = some k → x.vals[j]? = some v → atS k x.stamp (wit ds) = v) ∧ Below W1.heap.size W1 wr
theorem snaps_all {ds : List DoneD} {l : List SnapD} (h : ∀ (k : Nat) s, k < l.length → l[k]? = some s → snapOk ds s) : Snapshots ds l := fun s hs => by
  obtain ⟨k, hk⟩ := List.getElem?_of_mem hs
  exact h k s (List.getElem?_eq_some_iff.1 hk).1 hk
structure SnpS (B b bk kk bv vv : Nat) (c0 c1 c2 kv wv : Value) (stamp : Int) (key : ByteArray) (v : ValD) (W : World) : Prop where
  h0 : W.cell? ⟨B, 0, none⟩ = some c0
  h1 : W.cell? ⟨B, 1, none⟩ = some c1
  h2 : W.cell? ⟨B, 2, none⟩ = some c2
  s1 : W.cell? ⟨b, 1, none⟩ = some (.int .u64 stamp)
  s3 : W.cell? ⟨b, 3, none⟩ = some kv
  s4 : W.cell? ⟨b, 4, none⟩ = some wv
  k0 : W.cell? ⟨bk, kk, none⟩ = some (.string key)
  v0 : W.cell? ⟨bv, vv, none⟩ = some (.int .i64 v.kind)
  v1 : W.cell? ⟨bv, vv + 1, none⟩ = some (.int .u64 v.bits)
  v2 : W.cell? ⟨bv, vv + 2, none⟩ = some (.string v.text)
set_option maxHeartbeats 8000000 in
set_option maxRecDepth 100000 in
theorem c23 {w : World} {h : HistD} (ok : HistOk w h) (hl : h.done.length ≤ 30) : Calls Try.prog 23 #[h.agg] w (TellEnd (Snapshots h.done h.snaps) w) := by
  refine gen (S := TellEnd (Snapshots h.done h.snaps) w) fun R hR => ?_
  have h17 := fun W (hb : Below w.heap.size w W) key stamp => c17 (ok.keep hb) hl key stamp
  obtain ⟨ds, seen, snaps, da, dc, sa, sc, na, nc⟩ := h
  have hrow := ok.2.2.1
  have hsn := ok.2.2.2.2
  simp only [HistD.agg, HistD.dv, HistD.sv, HistD.nv] at hrow hR h17 hl hsn ⊢
  have hln : snaps.length ≤ maxLen := hrow.len
  unfold maxLen at hln
  clear ok
  have HROW := Lib.hid hrow
  have H17 := Lib.hid h17
  have HSN := Lib.hid hsn
  clear hrow h17 hsn
  go_enter Try.func23, Try.ntmps23
  go_wp2
  generalize hW : (w.alloc (.cells #[.slice da ds.length dc, .slice sa seen.length sc, .slice na snaps.length nc] 34)) = W1
  have hb1 : Below w.heap.size w W1 := by rw [← hW]; exact below1 _ _
  have hK : VarAt W1 w.heap.size 34 [.slice da ds.length dc, .slice sa seen.length sc, .slice na snaps.length nc] := by rw [← hW]; exact VarAt.new w 34 _
  have H1 := Lib.hid (HROW.out.keep hb1)
  have HB1 := Lib.hid hb1
  have HK := Lib.hid hK
  have hw1 : w.heap.size < W1.heap.size := hK.lt
  clear hW hb1 hK
  go_loopw [3] (fun i wr => SnpRel ds snaps W1 i wr) (fun i _ => snaps.length - (intOf i).toNat)
  case atStart => exact ⟨0, by omega, rfl, fun k d hk => by omega, Below.refl _ _⟩
  case round =>
    obtain ⟨i, hi, rfl, hs, hbr⟩ := hrel
    have hKr := HK.out.keep hbr hw1
    have hc0 := hKr.cell (j := 0) rfl
    have hc1 := hKr.cell (j := 1) rfl
    have hc2 := hKr.cell (j := 2) rfl
    have hwr : w.heap.size < wr.heap.size := hKr.lt
    have HS := Lib.hid hs
    have HBR := Lib.hid hbr
    clear hs
    rcases Nat.lt_or_ge i snaps.length with hlt | hge
    · obtain ⟨b, o, d, rfl, hbl, hd, hi0, hi1, hi2, hi3, hi4⟩ := H1.out.snapAt hlt
      rw [← hbr.cell (p := ⟨b, o + i * 5, none⟩) hbl] at hi0
      rw [← hbr.cell (p := ⟨b, o + i * 5 + 1, none⟩) hbl] at hi1
      rw [← hbr.cell (p := ⟨b, o + i * 5 + 2, none⟩) hbl] at hi2
      rw [← hbr.cell (p := ⟨b, o + i * 5 + 3, none⟩) hbl] at hi3
      rw [← hbr.cell (p := ⟨b, o + i * 5 + 4, none⟩) hbl] at hi4
      have hbr2 : b < wr.heap.size := Nat.lt_of_lt_of_le hbl hbr.size
      have hso := HSN.out d (List.mem_of_getElem? hd)
      have HD := Lib.hid hd
      obtain ⟨ses, stp, flr, keys, vals, ka, kc, va, vc⟩ := d
      simp only [SnapD.kv, SnapD.vv] at hi0 hi1 hi2 hi3 hi4
      have hkr := hso.1
      have hvr := hso.2
      simp only [SnapD.kv, SnapD.vv] at hkr hvr
      have hiI : (i : Int) < (snaps.length : Int) := by omega
      have hkl := hkr.len
      have hvl := hvr.len
      unfold maxLen at hkl hvl
      have bad : ¬ snapOk ds ⟨ses, stp, flr, keys, vals, ka, kc, va, vc⟩ → ¬ Snapshots ds snaps := fun hn hall => hn (hall _ (List.mem_of_getElem? HD.out))
      have HBD := Lib.hid bad
      have HKR := Lib.hid hkr
      have HVR := Lib.hid hvr
      have HBB := Lib.hid (HB1.out.trans (HBR.out.mono HB1.out.size))
      clear hd hbr hKr hso hkr hvr bad
      by_cases hlen : keys.length = vals.length
      · have HLEN := Lib.hid hlen
        have hne : ((keys.length : Int) != (vals.length : Int)) = false := by simp [hlen]
        clear hlen
        by_cases hfl : stp < flr
        · have hgt : decide (stp < flr) = true := decide_eq_true hfl
          go_wp2
          go_tidy
          exact TellEnd.no (HBD.out fun h => h.1 hfl) (HBB.out.alloc HBB.out.size _)
        · have hgt : decide (stp < flr) = false := decide_eq_false hfl
          go_wp2
          obtain ⟨wo, rfl⟩ : ∃ wo : World, wo = wr := ⟨_, rfl⟩
          go_loopw [5] (fun k wr => SnpIn ds ⟨ses, stp, flr, keys, vals, ka, kc, va, vc⟩ (wo.alloc (.cells #[.int .i64 ses, .int .u64 stp, .int .u64 flr, .slice ka keys.length kc, .slice va vals.length vc] 80)) k wr) (fun k _ => keys.length - (intOf k).toNat)
          case atStart => exact ⟨0, by omega, rfl, fun j k v hj => by omega, Below.refl _ _⟩
          case round =>
            obtain ⟨m, hm, rfl, hins, hbx⟩ := hrel
            simp only at hm
            have hV := (VarAt.new wo 80 [.int .i64 ses, .int .u64 stp, .int .u64 flr, .slice ka keys.length kc, .slice va vals.length vc]).keep hbx (by simp)
            have hW := HBB.out.trans ((((Below.refl wo.heap.size wo).alloc (Nat.le_refl _) (.cells #[.int .i64 ses, .int .u64 stp, .int .u64 flr, .slice ka keys.length kc, .slice va vals.length vc] 80)).trans (hbx.mono (by simp))).mono HBB.out.size)
            have hHr : VarAt wr w.heap.size 34 [.slice da ds.length dc, .slice sa seen.length sc, .slice (some ⟨b, o, none⟩) snaps.length nc] := (HK.out.keep HBR.out hw1).keep (((Below.refl wo.heap.size wo).alloc (Nat.le_refl _) (.cells #[.int .i64 ses, .int .u64 stp, .int .u64 flr, .slice ka keys.length kc, .slice va vals.length vc] 80)).trans (hbx.mono (by simp))) hwr
            have p3 := hV.cell (j := 3) rfl
            have hwl := hV.lt
            have HINS := Lib.hid hins
            have HWB := Lib.hid hW
            have HBXX := Lib.hid hbx
            rcases Nat.lt_or_ge m keys.length with hml | hmg
            · obtain ⟨bk, ok, key, rfl, hbk, hky, hkc⟩ := HKR.out.strAt hml
              obtain ⟨bv, ov, v, rfl, hbv, hvy, hvc0, hvc1, hvc2⟩ := HVR.out.valAt (i := m) (by have := HLEN.out; omega)
              have hmI : (m : Int) < (keys.length : Int) := by omega
              have hmV : (m : Int) < (vals.length : Int) := by have := HLEN.out; omega
              have sk : ∀ W, Below wr.heap.size wr W → SnpS w.heap.size wo.heap.size bk (ok + m) bv (ov + m * 3) (.slice da ds.length dc) (.slice sa seen.length sc) (.slice (some ⟨b, o, none⟩) snaps.length nc) (.slice (some ⟨bk, ok, none⟩) keys.length kc) (.slice (some ⟨bv, ov, none⟩) vals.length vc) stp key v W := fun W hb => by
                have hV2 := hV.keep hb hV.lt
                have hH2 := hHr.keep hb hHr.lt
                have hw2 := hW.trans (hb.mono hW.size)
                exact ⟨hH2.cell (j := 0) rfl, hH2.cell (j := 1) rfl, hH2.cell (j := 2) rfl, hV2.cell (j := 1) rfl, hV2.cell (j := 3) rfl, hV2.cell (j := 4) rfl,
                  by rw [hw2.cell (p := ⟨bk, ok + m, none⟩) hbk]; exact hkc, by rw [hw2.cell (p := ⟨bv, ov + m * 3, none⟩) hbv]; exact hvc0, by rw [hw2.cell (p := ⟨bv, ov + m * 3 + 1, none⟩) hbv]; exact hvc1, by rw [hw2.cell (p := ⟨bv, ov + m * 3 + 2, none⟩) hbv]; exact hvc2⟩
              have h17 : ∀ W, Below wr.heap.size wr W → Calls Try.prog 17 #[.agg #[.slice da ds.length dc, .slice sa seen.length sc, .slice (some ⟨b, o, none⟩) snaps.length nc], .string key, .int .u64 stp] W fun e w' => e = .returned (atS key stp (wit ds)).agg ∧ Below wr.heap.size wr w' := fun W hb =>
                (H17.out W (hW.trans (hb.mono hW.size)) key stp).mono fun e w' ⟨h1, h2⟩ => ⟨h1, hb.trans (h2.mono hb.size)⟩
              have next : atS key stp (wit ds) = v → ∀ W, Below wr.heap.size wr W → SnpIn ds ⟨ses, stp, flr, keys, vals, some ⟨bk, ok, none⟩, kc, some ⟨bv, ov, none⟩, vc⟩ (wo.alloc (.cells #[.int .i64 ses, .int .u64 stp, .int .u64 flr, .slice (some ⟨bk, ok, none⟩) keys.length kc, .slice (some ⟨bv, ov, none⟩) vals.length vc] 80)) (.int .i64 ((m : Int) + 1)) W := fun ha W hb =>
                ⟨m + 1, by simp only; omega, rfl, fun j k u hj hk hu => by
                  rcases Nat.lt_or_ge j m with h1 | h1
                  · exact HINS.out j k u h1 hk hu
                  · obtain rfl : j = m := by omega
                    simp only at hk hu
                    rw [hky] at hk; rw [hvy] at hu; cases hk; cases hu; exact ha, hbx.trans (hb.mono hbx.size)⟩
              have fails : atS key stp (wit ds) ≠ v → ¬ Snapshots ds snaps := fun hne => HBD.out fun h => hne (h.2.2 m key v hky hvy)
              generalize atS key stp (wit ds) = u at *
              have HSK := Lib.hid sk
              have HCL := Lib.hid h17
              have HNX := Lib.hid next
              have HF := Lib.hid fails
              have hneq := neq47 v u
              simp only [ValD.agg] at hneq
              clear sk h17 next fails hV hW hHr hc0 hc1 hc2 hi0 hi1 hi2 hi3 hi4 hkc hvc0 hvc1 hvc2 hky hvy hbx hins
              by_cases huv : v = u
              · rw [decide_eq_true huv] at hneq
                simp only [Bool.not_true] at hneq
                have HUV := Lib.hid huv
                clear huv
                go_wp2
                refine wp_region_noPanic ?_
                refine till_start (SnpS w.heap.size wo.heap.size bk (ok + m) bv (ov + m * 3) (.slice da ds.length dc) (.slice sa seen.length sc) (.slice (some ⟨b, o, none⟩) snaps.length nc) (.slice (some ⟨bk, ok, none⟩) keys.length kc) (.slice (some ⟨bv, ov, none⟩) vals.length vc) stp key v) 14 (by kernel_rfl) ?_
                have hS := HSK.out wr.drew (Below.refl wr.heap.size wr).drew
                show AnyTill _ _ _ _ _ _ 15 (Array.replicate 15 false) _ _
                refine till_take 0 (v := ?_) rfl (by kernel_rfl) (fun _ _ _ h => h) (Or.inl ⟨by rfl, ?_⟩) hS ?_
                rotate_left
                focus (intro w' hSw; obtain ⟨hs0, hs1, hs2, ht1, ht3, ht4, hk0, hv0, hv1, hv2⟩ := hSw; go_simp; try (with_reducible rfl))
                try simp only [Act.put, List.setIfInBounds_toArray, List.set_cons_zero, List.set_cons_succ]
                refine till_take 1 (v := ?_) rfl (by kernel_rfl) (fun _ _ _ h => h) (Or.inl ⟨by rfl, ?_⟩) hS ?_
                rotate_left
                focus (intro w' hSw; obtain ⟨hs0, hs1, hs2, ht1, ht3, ht4, hk0, hv0, hv1, hv2⟩ := hSw; go_simp; try (with_reducible rfl))
                try simp only [Act.put, List.setIfInBounds_toArray, List.set_cons_zero, List.set_cons_succ]
                refine till_take 2 (v := ?_) rfl (by kernel_rfl) (fun _ _ _ h => h) (Or.inl ⟨by rfl, ?_⟩) hS ?_
                rotate_left
                focus (intro w' hSw; obtain ⟨hs0, hs1, hs2, ht1, ht3, ht4, hk0, hv0, hv1, hv2⟩ := hSw; go_simp; try (with_reducible rfl))
                try simp only [Act.put, List.setIfInBounds_toArray, List.set_cons_zero, List.set_cons_succ]
                refine till_take 3 (v := ?_) rfl (by kernel_rfl) (fun _ _ _ h => h) (Or.inl ⟨by rfl, ?_⟩) hS ?_
                rotate_left
                focus (intro w' hSw; obtain ⟨hs0, hs1, hs2, ht1, ht3, ht4, hk0, hv0, hv1, hv2⟩ := hSw; go_simp; try (with_reducible rfl))
                try simp only [Act.put, List.setIfInBounds_toArray, List.set_cons_zero, List.set_cons_succ]
                refine till_take 4 (v := ?_) rfl (by kernel_rfl) (fun _ _ _ h => h) (Or.inl ⟨by rfl, ?_⟩) hS ?_
                rotate_left
                focus (intro w' hSw; obtain ⟨hs0, hs1, hs2, ht1, ht3, ht4, hk0, hv0, hv1, hv2⟩ := hSw; go_simp; try (with_reducible rfl))
                try simp only [Act.put, List.setIfInBounds_toArray, List.set_cons_zero, List.set_cons_succ]
                refine till_take 5 (v := ?_) rfl (by kernel_rfl) (fun _ _ _ h => h) (Or.inl ⟨by rfl, ?_⟩) hS ?_
                rotate_left
                focus (intro w' hSw; obtain ⟨hs0, hs1, hs2, ht1, ht3, ht4, hk0, hv0, hv1, hv2⟩ := hSw; go_simp; try (with_reducible rfl))
                try simp only [Act.put, List.setIfInBounds_toArray, List.set_cons_zero, List.set_cons_succ]
                refine till_take 6 (v := ?_) rfl (by kernel_rfl) (fun _ _ _ h => h) (Or.inl ⟨by rfl, ?_⟩) hS ?_
                rotate_left
                focus (intro w' hSw; obtain ⟨hs0, hs1, hs2, ht1, ht3, ht4, hk0, hv0, hv1, hv2⟩ := hSw; go_simp; try (with_reducible rfl))
                try simp only [Act.put, List.setIfInBounds_toArray, List.set_cons_zero, List.set_cons_succ]
                refine till_take 7 (v := ?_) rfl (by kernel_rfl) (fun _ _ _ h => h) (Or.inl ⟨by rfl, ?_⟩) hS ?_
                rotate_left
                focus (intro w' hSw; obtain ⟨hs0, hs1, hs2, ht1, ht3, ht4, hk0, hv0, hv1, hv2⟩ := hSw; go_simp; try (with_reducible rfl))
                try simp only [Act.put, List.setIfInBounds_toArray, List.set_cons_zero, List.set_cons_succ]
                refine till_take 8 (v := ?_) rfl (by kernel_rfl) (fun _ _ _ h => h) (Or.inl ⟨by rfl, ?_⟩) hS ?_
                rotate_left
                focus (intro w' hSw; obtain ⟨hs0, hs1, hs2, ht1, ht3, ht4, hk0, hv0, hv1, hv2⟩ := hSw; go_simp; try (with_reducible rfl))
                try simp only [Act.put, List.setIfInBounds_toArray, List.set_cons_zero, List.set_cons_succ]
                refine till_take 9 (v := ?_) rfl (by kernel_rfl) (fun _ _ _ h => h) (Or.inl ⟨by rfl, ?_⟩) hS ?_
                rotate_left
                focus (intro w' hSw; obtain ⟨hs0, hs1, hs2, ht1, ht3, ht4, hk0, hv0, hv1, hv2⟩ := hSw; go_simp; try (with_reducible rfl))
                try simp only [Act.put, List.setIfInBounds_toArray, List.set_cons_zero, List.set_cons_succ]
                refine till_take 10 (v := ?_) rfl (by kernel_rfl) (fun _ _ _ h => h) (Or.inl ⟨by rfl, ?_⟩) hS ?_
                rotate_left
                focus (intro w' hSw; obtain ⟨hs0, hs1, hs2, ht1, ht3, ht4, hk0, hv0, hv1, hv2⟩ := hSw; go_simp; try (with_reducible rfl))
                try simp only [Act.put, List.setIfInBounds_toArray, List.set_cons_zero, List.set_cons_succ]
                refine till_take 11 (v := ?_) rfl (by kernel_rfl) (fun _ _ _ h => h) (Or.inl ⟨by rfl, ?_⟩) hS ?_
                rotate_left
                focus (intro w' hSw; obtain ⟨hs0, hs1, hs2, ht1, ht3, ht4, hk0, hv0, hv1, hv2⟩ := hSw; go_simp; try (with_reducible rfl))
                try simp only [Act.put, List.setIfInBounds_toArray, List.set_cons_zero, List.set_cons_succ]
                refine till_take 12 (v := ?_) rfl (by kernel_rfl) (fun _ _ _ h => h) (Or.inl ⟨by rfl, ?_⟩) hS ?_
                rotate_left
                focus (intro w' hSw; obtain ⟨hs0, hs1, hs2, ht1, ht3, ht4, hk0, hv0, hv1, hv2⟩ := hSw; go_simp; try (with_reducible rfl))
                try simp only [Act.put, List.setIfInBounds_toArray, List.set_cons_zero, List.set_cons_succ]
                refine till_ready [13] (by kernel_rfl) (TillReady.cons 13 rfl (fun K hK => ?_) TillReady.nil)
                go_simp
                refine (HCL.out wr.drew (Below.refl wr.heap.size wr).drew).mono ?_
                rintro e w5 ⟨rfl, hb5⟩
                clear hS
                have hS := HSK.out w5 hb5
                refine (Hid.out hK) _ _ (fun _ => hS) ?_
                try simp only [Act.put, List.setIfInBounds_toArray, List.set_cons_zero, List.set_cons_succ]
                refine till_ready [14] (by kernel_rfl) (TillReady.cons 14 rfl (fun K hK => ?_) TillReady.nil)
                go_simp
                refine (Hid.out hK) _ _ (fun h => absurd rfl h) ?_
                refine till_done (by kernel_rfl) ?_
                refine NoPanic.normal ?_
                go_wp2
                go_tidy
                exact ⟨HNX.out HUV.out.symm _ hb5, by simp [intOf]; omega⟩
              · rw [decide_eq_false huv] at hneq
                simp only [Bool.not_false] at hneq
                have HUV := Lib.hid huv
                clear huv
                go_wp2
                refine wp_region_noPanic ?_
                refine till_start (SnpS w.heap.size wo.heap.size bk (ok + m) bv (ov + m * 3) (.slice da ds.length dc) (.slice sa seen.length sc) (.slice (some ⟨b, o, none⟩) snaps.length nc) (.slice (some ⟨bk, ok, none⟩) keys.length kc) (.slice (some ⟨bv, ov, none⟩) vals.length vc) stp key v) 14 (by kernel_rfl) ?_
                have hS := HSK.out wr.drew (Below.refl wr.heap.size wr).drew
                show AnyTill _ _ _ _ _ _ 15 (Array.replicate 15 false) _ _
                refine till_take 0 (v := ?_) rfl (by kernel_rfl) (fun _ _ _ h => h) (Or.inl ⟨by rfl, ?_⟩) hS ?_
                rotate_left
                focus (intro w' hSw; obtain ⟨hs0, hs1, hs2, ht1, ht3, ht4, hk0, hv0, hv1, hv2⟩ := hSw; go_simp; try (with_reducible rfl))
                try simp only [Act.put, List.setIfInBounds_toArray, List.set_cons_zero, List.set_cons_succ]
                refine till_take 1 (v := ?_) rfl (by kernel_rfl) (fun _ _ _ h => h) (Or.inl ⟨by rfl, ?_⟩) hS ?_
                rotate_left
                focus (intro w' hSw; obtain ⟨hs0, hs1, hs2, ht1, ht3, ht4, hk0, hv0, hv1, hv2⟩ := hSw; go_simp; try (with_reducible rfl))
                try simp only [Act.put, List.setIfInBounds_toArray, List.set_cons_zero, List.set_cons_succ]
                refine till_take 2 (v := ?_) rfl (by kernel_rfl) (fun _ _ _ h => h) (Or.inl ⟨by rfl, ?_⟩) hS ?_
                rotate_left
                focus (intro w' hSw; obtain ⟨hs0, hs1, hs2, ht1, ht3, ht4, hk0, hv0, hv1, hv2⟩ := hSw; go_simp; try (with_reducible rfl))
                try simp only [Act.put, List.setIfInBounds_toArray, List.set_cons_zero, List.set_cons_succ]
                refine till_take 3 (v := ?_) rfl (by kernel_rfl) (fun _ _ _ h => h) (Or.inl ⟨by rfl, ?_⟩) hS ?_
                rotate_left
                focus (intro w' hSw; obtain ⟨hs0, hs1, hs2, ht1, ht3, ht4, hk0, hv0, hv1, hv2⟩ := hSw; go_simp; try (with_reducible rfl))
                try simp only [Act.put, List.setIfInBounds_toArray, List.set_cons_zero, List.set_cons_succ]
                refine till_take 4 (v := ?_) rfl (by kernel_rfl) (fun _ _ _ h => h) (Or.inl ⟨by rfl, ?_⟩) hS ?_
                rotate_left
                focus (intro w' hSw; obtain ⟨hs0, hs1, hs2, ht1, ht3, ht4, hk0, hv0, hv1, hv2⟩ := hSw; go_simp; try (with_reducible rfl))
                try simp only [Act.put, List.setIfInBounds_toArray, List.set_cons_zero, List.set_cons_succ]
                refine till_take 5 (v := ?_) rfl (by kernel_rfl) (fun _ _ _ h => h) (Or.inl ⟨by rfl, ?_⟩) hS ?_
                rotate_left
                focus (intro w' hSw; obtain ⟨hs0, hs1, hs2, ht1, ht3, ht4, hk0, hv0, hv1, hv2⟩ := hSw; go_simp; try (with_reducible rfl))
                try simp only [Act.put, List.setIfInBounds_toArray, List.set_cons_zero, List.set_cons_succ]
                refine till_take 6 (v := ?_) rfl (by kernel_rfl) (fun _ _ _ h => h) (Or.inl ⟨by rfl, ?_⟩) hS ?_
                rotate_left
                focus (intro w' hSw; obtain ⟨hs0, hs1, hs2, ht1, ht3, ht4, hk0, hv0, hv1, hv2⟩ := hSw; go_simp; try (with_reducible rfl))
                try simp only [Act.put, List.setIfInBounds_toArray, List.set_cons_zero, List.set_cons_succ]
                refine till_take 7 (v := ?_) rfl (by kernel_rfl) (fun _ _ _ h => h) (Or.inl ⟨by rfl, ?_⟩) hS ?_
                rotate_left
                focus (intro w' hSw; obtain ⟨hs0, hs1, hs2, ht1, ht3, ht4, hk0, hv0, hv1, hv2⟩ := hSw; go_simp; try (with_reducible rfl))
                try simp only [Act.put, List.setIfInBounds_toArray, List.set_cons_zero, List.set_cons_succ]
                refine till_take 8 (v := ?_) rfl (by kernel_rfl) (fun _ _ _ h => h) (Or.inl ⟨by rfl, ?_⟩) hS ?_
                rotate_left
                focus (intro w' hSw; obtain ⟨hs0, hs1, hs2, ht1, ht3, ht4, hk0, hv0, hv1, hv2⟩ := hSw; go_simp; try (with_reducible rfl))
                try simp only [Act.put, List.setIfInBounds_toArray, List.set_cons_zero, List.set_cons_succ]
                refine till_take 9 (v := ?_) rfl (by kernel_rfl) (fun _ _ _ h => h) (Or.inl ⟨by rfl, ?_⟩) hS ?_
                rotate_left
                focus (intro w' hSw; obtain ⟨hs0, hs1, hs2, ht1, ht3, ht4, hk0, hv0, hv1, hv2⟩ := hSw; go_simp; try (with_reducible rfl))
                try simp only [Act.put, List.setIfInBounds_toArray, List.set_cons_zero, List.set_cons_succ]
                refine till_take 10 (v := ?_) rfl (by kernel_rfl) (fun _ _ _ h => h) (Or.inl ⟨by rfl, ?_⟩) hS ?_
                rotate_left
                focus (intro w' hSw; obtain ⟨hs0, hs1, hs2, ht1, ht3, ht4, hk0, hv0, hv1, hv2⟩ := hSw; go_simp; try (with_reducible rfl))
                try simp only [Act.put, List.setIfInBounds_toArray, List.set_cons_zero, List.set_cons_succ]
                refine till_take 11 (v := ?_) rfl (by kernel_rfl) (fun _ _ _ h => h) (Or.inl ⟨by rfl, ?_⟩) hS ?_
                rotate_left
                focus (intro w' hSw; obtain ⟨hs0, hs1, hs2, ht1, ht3, ht4, hk0, hv0, hv1, hv2⟩ := hSw; go_simp; try (with_reducible rfl))
                try simp only [Act.put, List.setIfInBounds_toArray, List.set_cons_zero, List.set_cons_succ]
                refine till_take 12 (v := ?_) rfl (by kernel_rfl) (fun _ _ _ h => h) (Or.inl ⟨by rfl, ?_⟩) hS ?_
                rotate_left
                focus (intro w' hSw; obtain ⟨hs0, hs1, hs2, ht1, ht3, ht4, hk0, hv0, hv1, hv2⟩ := hSw; go_simp; try (with_reducible rfl))
                try simp only [Act.put, List.setIfInBounds_toArray, List.set_cons_zero, List.set_cons_succ]
                refine till_ready [13] (by kernel_rfl) (TillReady.cons 13 rfl (fun K hK => ?_) TillReady.nil)
                go_simp
                refine (HCL.out wr.drew (Below.refl wr.heap.size wr).drew).mono ?_
                rintro e w5 ⟨rfl, hb5⟩
                clear hS
                have hS := HSK.out w5 hb5
                refine (Hid.out hK) _ _ (fun _ => hS) ?_
                try simp only [Act.put, List.setIfInBounds_toArray, List.set_cons_zero, List.set_cons_succ]
                refine till_ready [14] (by kernel_rfl) (TillReady.cons 14 rfl (fun K hK => ?_) TillReady.nil)
                go_simp
                refine (Hid.out hK) _ _ (fun h => absurd rfl h) ?_
                refine till_done (by kernel_rfl) ?_
                refine NoPanic.normal ?_
                go_wp2
                go_tidy
                exact TellEnd.no (HF.out fun e => HUV.out e.symm) (HWB.out.trans (hb5.mono HWB.out.size))
            · obtain rfl : m = keys.length := by omega
              have HOKK := Lib.hid (show snapOk ds ⟨ses, stp, flr, keys, vals, ka, kc, va, vc⟩ from ⟨by simp only; omega, HLEN.out, fun j k v hk hv => HINS.out j k v (List.getElem?_eq_some_iff.1 hk).1 hk hv⟩)
              clear hV hW hHr hc0 hc1 hc2 hi0 hi1 hi2 hi3 hi4 hbx hins
              go_wp2
              go_tidy
              refine ⟨⟨i + 1, by omega, rfl, fun k s hk hs => ?_, ?_⟩, by simp [intOf]; omega⟩
              · rcases Nat.lt_or_ge k i with h1 | h1
                · exact HS.out k s h1 hs
                · obtain rfl : k = i := by omega
                  rw [HD.out] at hs; cases hs; exact HOKK.out
              · exact (HBR.out.alloc HBR.out.size _).trans (HBXX.out.mono (by have := HBR.out.size; simp; omega))
      · have hne : ((keys.length : Int) != (vals.length : Int)) = true := by simp; omega
        have HLEN := Lib.hid hlen
        clear hlen
        go_wp2
        go_tidy
        exact TellEnd.no (HBD.out fun h => HLEN.out h.2.1) (HBB.out.alloc HBB.out.size _)
    · obtain rfl : i = snaps.length := by omega
      have HE := Lib.hid (snaps_all HS.out)
      go_wp2
      go_tidy
      exact TellEnd.yes HE.out (HB1.out.trans (HBR.out.mono HB1.out.size))
end Go.Proofs.Ytmdfilffoomckaa
