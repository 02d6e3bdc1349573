/- The law JudgeRuns: its walk. Conditions: each law's own. -/
import Derived.Test.YtmdfilffoomckaaRunsAt
namespace Go.Proofs.Ytmdfilffoomckaa
open Go.ChangeShapes Go.WideShapes Go.ChangeAt Go.RowKit

def RunsRel (w w1 : World) (ts : List TxnD) (a i : Value) (W : World) : Prop :=
  ∃ (D : List DoneD) (S : List SeenD) (L : List ItemD) (vl v1 v2 : Value) (last : Int), RunInv D S L last ∧ RunAt w1 last vl v1 v2 D S L W ∧ a = .int .u64 last ∧ i = .int .i64 (D.length : Nat) ∧ D.length ≤ ts.length ∧ 0 ≤ last ∧ last ≤ 4 * (D.length : Int) ∧ S.length ≤ 6 * D.length ∧ L.length ≤ 6 * D.length ∧ ∀ d ∈ D, TxnOk w d.txn
def SeenCall (u : ValD) (w W : World) (e : Ending) (w' : World) : Prop := (∃ n, e = .returned (.tuple #[.agg #[.int .i64 u.kind, .int .u64 u.bits, .string u.text], .int .u64 n])) ∧ Below w.heap.size w w' ∧ Below W.heap.size W w'
def R19S (T sb : Nat) (last : Int) (src : Value) (b o k : Nat) (key : ByteArray) (W : World) : Prop := W.cell? ⟨T, 2, none⟩ = some src ∧ W.cell? ⟨b, o + k * 2, none⟩ = some (.string key) ∧ W.cell? ⟨sb, 1, none⟩ = some (.int .u64 last)
def R20S (T hb g : Nat) (id : IdD) (src v2 : Value) (b o k : Nat) (key : ByteArray) (u : ValD) (W : World) : Prop := W.cell? ⟨hb, 1, none⟩ = some v2 ∧ W.cell? ⟨T, 0, none⟩ = some (.int .i64 id.s) ∧ W.cell? ⟨T, 1, none⟩ = some (.int .i64 id.q) ∧ W.cell? ⟨T, 2, none⟩ = some src ∧ W.cell? ⟨b, o + k * 2, none⟩ = some (.string key) ∧ W.cell? ⟨g, 0, none⟩ = some (.int .i64 u.kind) ∧ W.cell? ⟨g, 1, none⟩ = some (.int .u64 u.bits) ∧ W.cell? ⟨g, 2, none⟩ = some (.string u.text)
def R29S (X m : Nat) (sx : Int) (key : ByteArray) (W : World) : Prop := W.cell? ⟨X, 3, none⟩ = some (.slice (some ⟨X + 1, 0, none⟩) 3 3) ∧ W.cell? ⟨X, 1, none⟩ = some (.int .u64 sx) ∧ W.cell? ⟨X + 1, m, none⟩ = some (.string key)
def keys3 : List ByteArray := [⟨#[97]⟩, ⟨#[99]⟩, ⟨#[101]⟩]
def R37S (H g k : Nat) (src : Value) (text : ByteArray) (W : World) : Prop := W.cell? ⟨H, 1, none⟩ = some src ∧ W.cell? ⟨g, k * 6 + 5, none⟩ = some (.string text)
theorem und22' : Try.prog.underlying 22 = some (.slice 50) := by kernel_rfl
theorem info50' : (Try.prog.info? 50).map (fun i => (i.zero, i.size, i.bytes)) = some (some (.agg #[.int .i64 0, .int .i64 0, .slice none 0 0, .slice none 0 0, .bool false, .int .u64 0]), 6, 80) := by kernel_rfl
theorem info60' : (Try.prog.info? 60).map (fun i => (i.zero, i.size, i.bytes)) = some (some (.agg #[.int .i64 0, .int .i64 0, .string ⟨#[]⟩, .int .i64 0, .int .u64 0, .string ⟨#[]⟩]), 6, 64) := by kernel_rfl
theorem info64' : (Try.prog.info? 64).map (fun i => (i.zero, i.size, i.bytes)) = some (some (.agg #[.int .i64 0, .int .u64 0, .int .u64 0, .slice none 0 0, .slice none 0 0]), 5, 72) := by kernel_rfl
theorem info47' : (Try.prog.info? 47).map (fun i => (i.zero, i.size, i.bytes)) = some (some (.agg #[.int .i64 0, .int .u64 0, .string ⟨#[]⟩]), 3, 32) := by kernel_rfl
set_option maxHeartbeats 16000000 in
set_option maxRecDepth 1000000 in
theorem c7 {w : World} {a0 a1 : Option Addr} {k0 k1 : Nat} {ts : List TxnD} {st : List Int} (hts : RowOf encTxn 4 w (.slice a0 ts.length k0) ts) (hf : ∀ x ∈ ts, TxnFine w x) (hst : RowOf encBy 1 w (.slice a1 st.length k1) st) (hsb : ∀ x ∈ st, 0 ≤ x ∧ x ≤ 255) (p : Nat) (hp : p ≤ 255) :
    Calls Try.prog 7 #[.slice a0 ts.length k0, .slice a1 st.length k1, .int .u8 p] w fun e w' => e = .returned (.bool true) ∧ Below w.heap.size w w' := by
  refine gen fun R hR => ?_
  have hend : ∀ W, Below w.heap.size w W → R (.returned (.bool true)) W := fun W hb => hR _ _ ⟨rfl, hb⟩
  have hsl : st.length ≤ maxLen := hst.len
  have htl : ts.length ≤ maxLen := hts.len
  unfold maxLen at hsl htl
  have END := Lib.hid hend
  have HTS := Lib.hid hts
  have HF := Lib.hid hf
  have HST := Lib.hid hst
  have HSB := Lib.hid hsb
  clear hend hR hts hf hst hsb
  go_enter Try.func7, Try.ntmps7
  go_wp2_with fail
  refine (c8 _).mono ?_
  rintro e w1 ⟨rfl, hb1⟩
  have HB1 := Lib.hid hb1
  clear hb1
  by_cases hl : (30 : Int) < (ts.length : Int)
  · go_wp2_with (first | (go_at_call 8; refine (c8 _).mono ?_; rintro e w2 ⟨rfl, hb2⟩; have HB2 := Lib.hid (HB1.out.trans (hb2.mono HB1.out.size)); clear hb2) | fail)
    go_tidy
    exact END.out _ HB2.out
  have hl30 : ts.length ≤ 30 := by omega
  have hlf : decide ((30 : Int) < (ts.length : Int)) = false := decide_eq_false hl
  clear hl
  go_wp2_with fail
  have HST0 := Lib.hid (RunAt.start w1)
  go_loopw [9, 10] (fun a i wr => RunsRel w w1 ts a i wr) (fun _ i _ => ts.length - (intOf i).toNat)
  case atStart => exact ⟨[], [], [], _, _, _, 0, RunInv.start, HST0.out, rfl, rfl, by simp, by omega, by simp, by simp, by simp, by simp⟩
  case round =>
    clear HST0
    obtain ⟨D, S, L, vl, v1, v2, last, hinv, hat, rfl, rfl, hDl, hl0, hl4, hSl, hLl, htx⟩ := hrel
    obtain ⟨al, kl, rfl⟩ := owns_slice hat.rl
    obtain ⟨av1, kv1, rfl⟩ := owns_slice hat.r1
    obtain ⟨av2, kv2, rfl⟩ := owns_slice hat.r2
    have HINV := Lib.hid hinv
    have HAT := Lib.hid hat
    have HTX := Lib.hid htx
    have HASZ := Lib.hid hat.size
    have hBw : Below w.heap.size w wr := HB1.out.trans (hat.old.mono HB1.out.size)
    have HBW := Lib.hid hBw
    obtain ⟨n, hn⟩ : ∃ n, n = D.length := ⟨_, rfl⟩
    rcases Nat.lt_or_ge D.length ts.length with hlt | hge
    · obtain ⟨b, o, t, rfl, hbl, ht, hc0, hc1, hc2, hc3⟩ := HTS.out.txnAt hlt
      rw [← hBw.cell (p := ⟨b, o + D.length * 4, none⟩) hbl] at hc0
      rw [← hBw.cell (p := ⟨b, o + D.length * 4 + 1, none⟩) hbl] at hc1
      rw [← hBw.cell (p := ⟨b, o + D.length * 4 + 2, none⟩) hbl] at hc2
      rw [← hBw.cell (p := ⟨b, o + D.length * 4 + 3, none⟩) hbl] at hc3
      have hfine := HF.out t (List.mem_of_getElem? ht)
      have hnI : (n : Int) < (ts.length : Int) := by omega
      have HIL := Lib.hid (show D.length < ts.length from hlt)
      obtain ⟨m8, hm8⟩ : ∃ m : Nat, m = n % 8 := ⟨_, rfl⟩
      obtain ⟨d8, hd8⟩ : ∃ m : Nat, m = n / 8 := ⟨_, rfl⟩
      have he1 : (n : Int).tmod 8 = (m8 : Int) := by rw [Int.tmod_eq_emod_of_nonneg (by omega)]; omega
      have he2 : (n : Int).tdiv 8 = (d8 : Int) := by rw [Int.tdiv_eq_ediv_of_nonneg (by omega)]; omega
      have hw1 : IntKind.i64.wrap (1 + (m8 : Int)) = 1 + (m8 : Int) := IntWalk.i64_in _ (by omega)
      have hw2 : IntKind.i64.wrap (1 + (d8 : Int)) = 1 + (d8 : Int) := IntWalk.i64_in _ (by omega)
      have hwm : IntKind.i64.wrap (m8 : Int) = (m8 : Int) := IntWalk.i64_in _ (by omega)
      have hwd : IntKind.i64.wrap (d8 : Int) = (d8 : Int) := IntWalk.i64_in _ (by omega)
      have HID := Lib.hid (show idAt D.length = ⟨1 + (m8 : Int), 1 + (d8 : Int)⟩ by unfold idAt; rw [hm8, hd8, hn])
      have HN := Lib.hid hn
      rw [← hn] at hc0 hc1 hc2 hc3 hDl hl4 hSl hLl ⊢
      obtain ⟨⟨ti1, ti2⟩, rd, ws, ra, rc, wa, wk⟩ := t
      simp only [TxnD.rv, TxnD.wv] at hc0 hc1 hc2 hc3
      have hrow1 := hfine.1.1
      have hrow2 := hfine.1.2
      simp only [TxnD.rv, TxnD.wv] at hrow1 hrow2
      have HRD := Lib.hid hrow1
      have HWS := Lib.hid hrow2
      have HFINE := Lib.hid hfine
      have hn30 : n < 30 := by omega
      clear hinv hat htx hBw hlt ht hm8 hd8 hn hfine hrow1 hrow2
      go_upto_region 11 with fail
      generalize hW : wr.alloc _ = W3
      have hT : VarAt W3 wr.heap.size 43 [.int .i64 (1 + (m8 : Int)), .int .i64 (1 + (d8 : Int)), .slice ra rd.length rc, .slice wa ws.length wk] := by
        rw [← hW]; exact VarAt.new wr 43 [.int .i64 (1 + (m8 : Int)), .int .i64 (1 + (d8 : Int)), .slice ra rd.length rc, .slice wa ws.length wk]
      have hB3 : Below wr.heap.size wr W3 := by rw [← hW]; exact (Below.refl _ _).alloc (Nat.le_refl _) _
      obtain ⟨T, hTe⟩ : ∃ T, T = wr.heap.size := ⟨_, rfl⟩
      have HTE := Lib.hid hTe
      rw [← hTe] at hT ⊢
      have hA3 := HAT.out.below hB3
      have hBw3 := HBW.out.trans (hB3.mono HBW.out.size)
      have hok3 : TxnOk w ⟨⟨1 + (m8 : Int), 1 + (d8 : Int)⟩, rd, ws, ra, rc, wa, wk⟩ := HFINE.out.1
      have h24 := c24 ⟨⟨1 + (m8 : Int), 1 + (d8 : Int)⟩, rd, ws, ra, rc, wa, wk⟩ (hok3.keep hBw3)
      have h25 := fun W (hb : Below w.heap.size w W) => c25 ⟨⟨1 + (m8 : Int), 1 + (d8 : Int)⟩, rd, ws, ra, rc, wa, wk⟩ (hok3.keep hb) HFINE.out.2.2.2.2 (fun x hx => ⟨(HFINE.out.2.2.2.1 x hx).1, (HFINE.out.2.2.2.1 x hx).2.1⟩)
      simp only [TxnD.agg, TxnD.rv, TxnD.wv] at h24 h25
      have H24 := Lib.hid h24
      have H25 := Lib.hid h25
      have HA3 := Lib.hid hA3
      have HBW3 := Lib.hid hBw3
      have HT := Lib.hid hT
      have q0 := hT.cell (j := 0) rfl
      have q1 := hT.cell (j := 1) rfl
      have q2 := hT.cell (j := 2) rfl
      have q3 := hT.cell (j := 3) rfl
      have ql := hT.lt
      clear hW hc0 hc1 hc2 hc3 hT hB3 hTe hA3 hBw3 h24 h25 HAT HBW he1 he2 hw1 hw2 hwm hwd hbl
      have HTGE := Lib.hid (show w1.heap.size + 2 ≤ T by have := HTE.out; have := HASZ.out; omega)
      have hwa : IntKind.u64.wrap (last + 1) = last + 1 := IntWalk.u64_in _ (by omega)
      go_upto_if 59 with (first
        | (go_at_call 24
           refine H24.out.mono ?_
           rintro e W4 ⟨b4, rfl, hb4⟩
           have HE4 := Lib.hid (HBW3.out.trans (hb4.mono HBW3.out.size))
           have hT4 := HT.out.keep hb4 HT.out.lt
           have r0 := hT4.cell (j := 0) rfl
           have r1 := hT4.cell (j := 1) rfl
           have r2 := hT4.cell (j := 2) rfl
           have r3 := hT4.cell (j := 3) rfl
           have rl := hT4.lt
           have HT4 := Lib.hid hT4
           have HA4 := Lib.hid (HA3.out.below hb4)
           clear hb4 hT4)
        | (go_at_call 25
           refine (H25.out _ HE4.out).mono ?_
           rintro e W5 ⟨b5, rfl, hb25, hb5⟩
           have HE5 := Lib.hid (HE4.out.trans (hb5.mono HE4.out.size))
           have hT5 := HT4.out.keep hb5 HT4.out.lt
           have HT5 := Lib.hid hT5
           have HOK := Lib.hid hb25
           have HA5 := Lib.hid (HA4.out.below hb5)
           have g0 := HT5.out.cell (j := 0) rfl
           have g1 := HT5.out.cell (j := 1) rfl
           have g2 := HT5.out.cell (j := 2) rfl
           have g3 := HT5.out.cell (j := 3) rfl
           have gl := HT5.out.lt
           clear hb5 hT5 hb25)
        | fail)
      any_goals first | exact END.out _ HE5.out | exact END.out _ HE4.out
      have HOK2 := Lib.hid (HOK.out (by simp_all))
      clear r0 r1 r2 r3 rl q0 q1 q2 q3 ql H24 H25 HE4 HT4 HA4 HT HA3 HBW3 HOK
      go_cut [9] from 28 to 113 (fun a wx => ∃ at5 : Int, a = .int .u64 at5 ∧ last < at5 ∧ at5 ≤ 4 * ((n : Int) + 1) ∧ wx = W5)
      case first =>
        rcases Nat.lt_or_ge n st.length with hns | hns
        · obtain ⟨bs, os, y, rfl, hbs, hy, hyc⟩ := HST.out.byAt hns
          have hyc' := (HE5.out.cell (p := ⟨bs, os + n, none⟩) hbs).trans hyc
          have hyb := HSB.out y (List.mem_of_getElem? hy)
          have hnsI : (n : Int) < (st.length : Int) := by omega
          obtain ⟨y4, hy4, hy0, hy3⟩ : ∃ z : Int, y.tmod 4 = z ∧ 0 ≤ z ∧ z ≤ 3 := ⟨y.tmod 4, rfl, by rw [Int.tmod_eq_emod_of_nonneg (by omega)]; omega, by rw [Int.tmod_eq_emod_of_nonneg (by omega)]; omega⟩
          have hy8 : IntKind.u8.wrap y4 = y4 := by rw [IntKind.wrap_u8]; omega
          have hy64 : IntKind.u64.wrap y4 = y4 := IntWalk.u64_in _ (by omega)
          have hwb : IntKind.u64.wrap (last + 1 + y4) = last + 1 + y4 := IntWalk.u64_in _ (by omega)
          clear hyc hy
          go_wp2
          go_meet
          exact ⟨_, rfl, by omega, by omega, rfl⟩
        · have hnsI : ¬ (n : Int) < (st.length : Int) := by omega
          go_wp2
          go_meet
          exact ⟨_, rfl, by omega, by omega, rfl⟩
      case rest =>
        obtain ⟨at5, rfl, hatl, hat4, rfl⟩ := hcut
        have HATL := Lib.hid hatl
        have HAT4 := Lib.hid hat4
        have hat0 : 0 ≤ at5 := by omega
        clear hatl hat4
        go_wp2_with fail
        go_loopw [12] (fun k wr => ∃ (S1 : List SeenD) (v2' : Value), S1.length ≤ rd.length ∧ k = .int .i64 (S1.length : Nat) ∧ RunAt w1 last (.slice al L.length kl) (.slice av1 D.length kv1) v2' D (S ++ S1) L wr ∧ VarAt wr T 43 [.int .i64 (1 + (m8 : Int)), .int .i64 (1 + (d8 : Int)), .slice ra rd.length rc, .slice wa ws.length wk] ∧ ∀ s ∈ S1, s.id = idAt D.length ∧ s.val = seenL L s.key last) (fun k _ => rd.length - (intOf k).toNat)
        case atStart => exact ⟨[], _, by simp, rfl, by rw [List.append_nil]; exact HA5.out, HT5.out, by simp⟩
        case round =>
          obtain ⟨S1, v2', hSn, rfl, hA, hT, hsv⟩ := hrel
          have hBw := HB1.out.trans (hA.old.mono HB1.out.size)
          obtain ⟨SS, hSS⟩ : ∃ SS, SS = S ++ S1 := ⟨_, rfl⟩
          have hSSl : SS.length ≤ 6 * n + S1.length := by rw [hSS, List.length_append]; omega
          rw [← hSS] at hA
          obtain ⟨a2', k2', rfl⟩ := owns_slice hA.r2
          obtain ⟨kk, hkk⟩ : ∃ k, k = S1.length := ⟨_, rfl⟩
          have HSS := Lib.hid hSS
          have HSV := Lib.hid hsv
          have HKK := Lib.hid hkk
          have q0 := hT.cell (j := 0) rfl
          have q1 := hT.cell (j := 1) rfl
          have q2 := hT.cell (j := 2) rfl
          have q3 := hT.cell (j := 3) rfl
          have ql := hT.lt
          rw [← hkk] at hSn hSSl ⊢
          have hrd6 : rd.length ≤ 6 := HOK2.out.2.1
          rcases Nat.lt_or_ge kk rd.length with hkl | hkg
          · obtain ⟨bk, ok, x, rfl, hbk, hx, hkc⟩ := HRD.out.rdAt' hkl
            have hkc' := (hBw.cell (p := ⟨bk, ok + kk * 2, none⟩) hbk).trans hkc
            have hbk2 : bk < wr.heap.size := Nat.lt_of_lt_of_le hbk hBw.size
            have hkI : (kk : Int) < (rd.length : Int) := by omega
            have HKL := Lib.hid hkl
            obtain ⟨u, hu⟩ : ∃ u, u = seenL L x.key last := ⟨_, rfl⟩
            have g26 : ∀ W, Below wr.heap.size wr W → Calls Try.prog 26 #[.pointer (some ⟨w1.heap.size, 0, none⟩), .string x.key, .int .u64 last] W (SeenCall u wr W) := fun W hb => (c26 (hA.below hb).st (RowOf.of_owns encItem_len (hA.below hb).rl rfl) x.key last).mono fun e w' ⟨h1, h2⟩ => ⟨by rw [hu]; exact h1, hb.trans (h2.mono hb.size), h2⟩
            have sk : ∀ W, Below wr.heap.size wr W → R19S T w1.heap.size last (.slice (some ⟨bk, ok, none⟩) rd.length rc) bk ok kk x.key W := fun W hb => ⟨(hT.keep hb hT.lt).cell (j := 2) rfl, by rw [hb.cell (p := ⟨bk, ok + kk * 2, none⟩) hbk2]; exact hkc', (hA.below hb).st.cell (j := 1) rfl⟩
            have SK := Lib.hid sk
            have G26 := Lib.hid g26
            have HU := Lib.hid hu
            have HA' := Lib.hid hA
            have HT' := Lib.hid hT
            have HKC := Lib.hid hkc
            have hS0 : Below wr.heap.size wr wr := Below.refl _ _
            have hS1 : Below wr.heap.size wr (wr.alloc (.cells (encVal zeroVal).toArray 47)).drew := (hS0.alloc (Nat.le_refl _) _).drew
            clear hA hT hsv hBw hSS hkk hkl hx hkc hkc' sk g26 hu
            go_upto_region 19 with fail
            go_cut [13, 14] from 68 to 101 (fun p nv wx => ∃ (g : Nat) (n' : Int), p = .pointer (some ⟨g, 0, none⟩) ∧ nv = .int .u64 n' ∧ VarAt wx g 47 (encVal u) ∧ Below wr.heap.size wr wx ∧ wr.heap.size ≤ g)
            case first => as_aux_lemma =>
              refine wp_region_noPanic ?_
              refine till_start (R19S T w1.heap.size last (.slice (some ⟨bk, ok, none⟩) rd.length rc) bk ok kk x.key) 14 (by kernel_rfl) ?_
              have hS := SK.out wr.drew hS0.drew
              show AnyTill _ _ _ _ _ _ 15 (Array.replicate 15 false) _ _
              refine till_take 0 (v := ?_) rfl (by kernel_rfl) (fun _ _ _ h => h) (Or.inl ⟨by rfl, ?_⟩) hS ?_
              rotate_left
              focus (intro w' hSw; obtain ⟨hs0, hs1, hs2⟩ := hSw; go_simp; try (with_reducible rfl))
              try simp only [Act.put, List.setIfInBounds_toArray, List.set_cons_zero, List.set_cons_succ]
              refine till_take 1 (v := ?_) rfl (by kernel_rfl) (fun _ _ _ h => h) (Or.inl ⟨by rfl, ?_⟩) hS ?_
              rotate_left
              focus (intro w' hSw; obtain ⟨hs0, hs1, hs2⟩ := hSw; go_simp; try (with_reducible rfl))
              try simp only [Act.put, List.setIfInBounds_toArray, List.set_cons_zero, List.set_cons_succ]
              refine till_take 2 (v := ?_) rfl (by kernel_rfl) (fun _ _ _ h => h) (Or.inl ⟨by rfl, ?_⟩) hS ?_
              rotate_left
              focus (intro w' hSw; obtain ⟨hs0, hs1, hs2⟩ := hSw; go_simp; try (with_reducible rfl))
              try simp only [Act.put, List.setIfInBounds_toArray, List.set_cons_zero, List.set_cons_succ]
              refine till_take 3 (v := ?_) rfl (by kernel_rfl) (fun _ _ _ h => h) (Or.inl ⟨by rfl, ?_⟩) hS ?_
              rotate_left
              focus (intro w' hSw; obtain ⟨hs0, hs1, hs2⟩ := hSw; go_simp; try (with_reducible rfl))
              try simp only [Act.put, List.setIfInBounds_toArray, List.set_cons_zero, List.set_cons_succ]
              refine till_take 4 (v := ?_) rfl (by kernel_rfl) (fun _ _ _ h => h) (Or.inl ⟨by rfl, ?_⟩) hS ?_
              rotate_left
              focus (intro w' hSw; obtain ⟨hs0, hs1, hs2⟩ := hSw; go_simp; try (with_reducible rfl))
              try simp only [Act.put, List.setIfInBounds_toArray, List.set_cons_zero, List.set_cons_succ]
              refine till_take 5 (v := ?_) rfl (by kernel_rfl) (fun _ _ _ h => h) (Or.inl ⟨by rfl, ?_⟩) hS ?_
              rotate_left
              focus (intro w' hSw; obtain ⟨hs0, hs1, hs2⟩ := hSw; go_simp; try (with_reducible rfl))
              try simp only [Act.put, List.setIfInBounds_toArray, List.set_cons_zero, List.set_cons_succ]
              refine till_take 6 (v := ?_) rfl (by kernel_rfl) (fun _ _ _ h => h) (Or.inl ⟨by rfl, ?_⟩) hS ?_
              rotate_left
              focus (intro w' hSw; obtain ⟨hs0, hs1, hs2⟩ := hSw; go_simp; try (with_reducible rfl))
              try simp only [Act.put, List.setIfInBounds_toArray, List.set_cons_zero, List.set_cons_succ]
              refine till_take 7 (v := ?_) rfl (by kernel_rfl) (fun _ _ _ h => h) (Or.inl ⟨by rfl, ?_⟩) hS ?_
              rotate_left
              focus (intro w' hSw; obtain ⟨hs0, hs1, hs2⟩ := hSw; go_simp; try (with_reducible rfl))
              try simp only [Act.put, List.setIfInBounds_toArray, List.set_cons_zero, List.set_cons_succ]
              refine till_ready [8, 12] (by kernel_rfl) (TillReady.cons 8 rfl (fun K hK => ?_) (TillReady.cons 12 rfl (fun K hK => ?_) TillReady.nil))
              · go_simp
                refine (G26.out wr.drew hS0.drew).mono ?_
                rintro e w9 ⟨⟨n9, rfl⟩, -, hb9⟩
                have hb5 : Below wr.heap.size wr w9 := hS0.drew.trans hb9
                clear hS
                have hS := SK.out w9 hb5
                refine (Hid.out hK) _ _ (fun _ => hS) ?_
                try simp only [Act.put, List.setIfInBounds_toArray, List.set_cons_zero, List.set_cons_succ]
                refine till_take 9 (v := ?_) rfl (by kernel_rfl) (fun _ _ _ h => h) (Or.inl ⟨by rfl, ?_⟩) hS ?_
                rotate_left
                focus (intro w' hSw; obtain - := hSw; go_simp; try (with_reducible rfl))
                try simp only [Act.put, List.setIfInBounds_toArray, List.set_cons_zero, List.set_cons_succ]
                refine till_take 10 (v := ?_) rfl (by kernel_rfl) (fun _ _ _ h => h) (Or.inl ⟨by rfl, ?_⟩) hS ?_
                rotate_left
                focus (intro w' hSw; obtain - := hSw; go_simp; try (with_reducible rfl))
                try simp only [Act.put, List.setIfInBounds_toArray, List.set_cons_zero, List.set_cons_succ]
                refine till_take 11 (v := ?_) rfl (by kernel_rfl) (fun _ _ _ h => h) (Or.inl ⟨by rfl, ?_⟩) hS ?_
                rotate_left
                focus (intro w' hSw; obtain - := hSw; go_simp; try (with_reducible rfl))
                try simp only [Act.put, List.setIfInBounds_toArray, List.set_cons_zero, List.set_cons_succ]
                refine till_ready [12] (by kernel_rfl) (TillReady.cons 12 rfl (fun K hK => ?_) TillReady.nil)
                go_simp
                have hb6 := hb5.alloc hb5.size (.cells (encVal zeroVal).toArray 47)
                have hS := SK.out _ hb6
                refine (Hid.out hK) _ _ (fun _ => hS) ?_
                try simp only [Act.put, List.setIfInBounds_toArray, List.set_cons_zero, List.set_cons_succ]
                refine till_ready [13] (by kernel_rfl) (TillReady.cons 13 rfl (fun K hK => ?_) TillReady.nil)
                go_simp
                have hb7 := hb5.alloc hb5.size (.cells (encVal u).toArray 47)
                have hS := SK.out _ hb7
                refine (Hid.out hK) _ _ (fun _ => hS) ?_
                try simp only [Act.put, List.setIfInBounds_toArray, List.set_cons_zero, List.set_cons_succ]
                refine till_ready [14] (by kernel_rfl) (TillReady.cons 14 rfl (fun K hK => ?_) TillReady.nil)
                go_simp
                refine (Hid.out hK) _ _ (fun h => absurd rfl h) ?_
                refine till_done (by kernel_rfl) ?_
                refine NoPanic.normal ?_
                go_wp2
                go_meet
                exact ⟨_, _, rfl, rfl, VarAt.new w9 47 (encVal u), hb7, hb5.size⟩
              · go_simp
                clear hS
                have hS := SK.out _ hS1
                refine (Hid.out hK) _ _ (fun _ => hS) ?_
                try simp only [Act.put, List.setIfInBounds_toArray, List.set_cons_zero, List.set_cons_succ]
                refine till_ready [8] (by kernel_rfl) (TillReady.cons 8 rfl (fun K hK => ?_) TillReady.nil)
                go_simp
                refine (G26.out (wr.alloc (.cells (encVal zeroVal).toArray 47)).drew hS1).mono ?_
                rintro e w9 ⟨⟨n9, rfl⟩, -, hb6⟩
                have hb5 : Below wr.heap.size wr w9 := hS1.trans (hb6.mono hS1.size)
                clear hS
                have hS := SK.out w9 hb5
                have hn := VarAt.keep (VarAt.new wr 47 (encVal zeroVal)).drew hb6 (by simp)
                have n0 := hn.cell (j := 0) rfl
                have n1 := hn.cell (j := 1) rfl
                have n2 := hn.cell (j := 2) rfl
                have k0 := hn.free 0
                have k1 := hn.free 1
                have k2 := hn.free 2
                have hl5 := hn.lt
                have HN := Lib.hid hn
                clear hn hb6
                refine (Hid.out hK) _ _ (fun _ => hS) ?_
                try simp only [Act.put, List.setIfInBounds_toArray, List.set_cons_zero, List.set_cons_succ]
                refine till_take 9 (v := ?_) rfl (by kernel_rfl) (fun _ _ _ h => h) (Or.inl ⟨by rfl, ?_⟩) hS ?_
                rotate_left
                focus (intro w' hSw; obtain - := hSw; go_simp; try (with_reducible rfl))
                try simp only [Act.put, List.setIfInBounds_toArray, List.set_cons_zero, List.set_cons_succ]
                refine till_take 10 (v := ?_) rfl (by kernel_rfl) (fun _ _ _ h => h) (Or.inl ⟨by rfl, ?_⟩) hS ?_
                rotate_left
                focus (intro w' hSw; obtain - := hSw; go_simp; try (with_reducible rfl))
                try simp only [Act.put, List.setIfInBounds_toArray, List.set_cons_zero, List.set_cons_succ]
                refine till_take 11 (v := ?_) rfl (by kernel_rfl) (fun _ _ _ h => h) (Or.inl ⟨by rfl, ?_⟩) hS ?_
                rotate_left
                focus (intro w' hSw; obtain - := hSw; go_simp; try (with_reducible rfl))
                try simp only [Act.put, List.setIfInBounds_toArray, List.set_cons_zero, List.set_cons_succ]
                refine till_ready [13] (by kernel_rfl) (TillReady.cons 13 rfl (fun K hK => ?_) TillReady.nil)
                go_simp
                have hb7 : Below wr.heap.size wr (((w9.setCell ⟨wr.heap.size, 0, none⟩ (.int .i64 u.kind)).setCell ⟨wr.heap.size, 1, none⟩ (.int .u64 u.bits)).setCell ⟨wr.heap.size, 2, none⟩ (.string u.text)) := ((hb5.setCell (Nat.le_refl _) _).setCell (Nat.le_refl _) _).setCell (Nat.le_refl _) _
                have hS := SK.out _ hb7
                refine (Hid.out hK) _ _ (fun _ => hS) ?_
                try simp only [Act.put, List.setIfInBounds_toArray, List.set_cons_zero, List.set_cons_succ]
                refine till_ready [14] (by kernel_rfl) (TillReady.cons 14 rfl (fun K hK => ?_) TillReady.nil)
                go_simp
                refine (Hid.out hK) _ _ (fun h => absurd rfl h) ?_
                refine till_done (by kernel_rfl) ?_
                refine NoPanic.normal ?_
                go_wp2
                go_meet
                exact ⟨_, _, rfl, rfl, ((HN.out.set 0 (.int .i64 u.kind)).set 1 (.int .u64 u.bits)).set 2 (.string u.text), hb7, Nat.le_refl _⟩
            case rest =>
              obtain ⟨g, n', rfl, rfl, hg, hbx, hgl⟩ := hcut
              obtain ⟨wq, rfl⟩ : ∃ wq : World, wq = wc := ⟨_, rfl⟩
              have hAx := HA'.out.below hbx
              have hTx := HT'.out.keep hbx HT'.out.lt
              have hTH : T ≠ w1.heap.size + 1 := by have := HTGE.out; omega
              have sk2 : ∀ W, VarAt W T 43 [.int .i64 (1 + (m8 : Int)), .int .i64 (1 + (d8 : Int)), .slice (some ⟨bk, ok, none⟩) rd.length rc, .slice wa ws.length wk] → VarAt W g 47 (encVal u) → VarAt W (w1.heap.size + 1) 26 [.slice av1 D.length kv1, .slice a2' SS.length k2', .slice none 0 0] → Below w1.heap.size w1 W → R20S T (w1.heap.size + 1) g ⟨1 + (m8 : Int), 1 + (d8 : Int)⟩ (.slice (some ⟨bk, ok, none⟩) rd.length rc) (.slice a2' SS.length k2') bk ok kk x.key u W := fun W h1 h2 h3 h4 => ⟨h3.cell (j := 1) rfl, h1.cell (j := 0) rfl, h1.cell (j := 1) rfl, h1.cell (j := 2) rfl, by rw [(HB1.out.trans (h4.mono HB1.out.size)).cell (p := ⟨bk, ok + kk * 2, none⟩) hbk]; exact HKC.out, h2.cell (j := 0) rfl, h2.cell (j := 1) rfl, h2.cell (j := 2) rfl⟩
              have sk3 : ∀ W, Below wq.heap.size wq W → R20S T (w1.heap.size + 1) g ⟨1 + (m8 : Int), 1 + (d8 : Int)⟩ (.slice (some ⟨bk, ok, none⟩) rd.length rc) (.slice a2' SS.length k2') bk ok kk x.key u W := fun W hb => sk2 W (hTx.keep hb hTx.lt) (hg.keep hb hg.lt) (hAx.below hb).hi (hAx.below hb).old
              have HSK2 := Lib.hid sk2
              have HSK3 := Lib.hid sk3
              have HAX := Lib.hid hAx
              have HTX2 := Lib.hid hTx
              have HG := Lib.hid hg
              have HGL := Lib.hid (show w1.heap.size + 2 ≤ g from Nat.le_trans HA'.out.size hgl)
              clear sk2 sk3 hAx hTx hg hbx q0 q1 q2 q3 ql
              go_upto_region 20 with fail
              have hS0 : Below wq.heap.size wq wq := Below.refl _ _
              refine wp_region_noPanic ?_
              refine till_start (R20S T (w1.heap.size + 1) g ⟨1 + (m8 : Int), 1 + (d8 : Int)⟩ (.slice (some ⟨bk, ok, none⟩) rd.length rc) (.slice a2' SS.length k2') bk ok kk x.key u) 15 (by kernel_rfl) ?_
              have hS := HSK3.out wq.drew hS0.drew
              show AnyTill _ _ _ _ _ _ 16 (Array.replicate 16 false) _ _
              refine till_take 0 (v := ?_) rfl (by kernel_rfl) (fun _ _ _ h => h) (Or.inl ⟨by rfl, ?_⟩) hS ?_
              rotate_left
              focus (intro w' hSw; obtain ⟨hs0, hs1, hs2, hs3, hs4, hs5, hs6, hs7⟩ := hSw; go_simp; try (with_reducible rfl))
              try simp only [Act.put, List.setIfInBounds_toArray, List.set_cons_zero, List.set_cons_succ]
              refine till_take 1 (v := ?_) rfl (by kernel_rfl) (fun _ _ _ h => h) (Or.inl ⟨by rfl, ?_⟩) hS ?_
              rotate_left
              focus (intro w' hSw; obtain ⟨hs0, hs1, hs2, hs3, hs4, hs5, hs6, hs7⟩ := hSw; go_simp; try (with_reducible rfl))
              try simp only [Act.put, List.setIfInBounds_toArray, List.set_cons_zero, List.set_cons_succ]
              refine till_take 2 (v := ?_) rfl (by kernel_rfl) (fun _ _ _ h => h) (Or.inl ⟨by rfl, ?_⟩) hS ?_
              rotate_left
              focus (intro w' hSw; obtain ⟨hs0, hs1, hs2, hs3, hs4, hs5, hs6, hs7⟩ := hSw; go_simp; try (with_reducible rfl))
              try simp only [Act.put, List.setIfInBounds_toArray, List.set_cons_zero, List.set_cons_succ]
              refine till_take 3 (v := ?_) rfl (by kernel_rfl) (fun _ _ _ h => h) (Or.inl ⟨by rfl, ?_⟩) hS ?_
              rotate_left
              focus (intro w' hSw; obtain ⟨hs0, hs1, hs2, hs3, hs4, hs5, hs6, hs7⟩ := hSw; go_simp; try (with_reducible rfl))
              try simp only [Act.put, List.setIfInBounds_toArray, List.set_cons_zero, List.set_cons_succ]
              refine till_take 4 (v := ?_) rfl (by kernel_rfl) (fun _ _ _ h => h) (Or.inl ⟨by rfl, ?_⟩) hS ?_
              rotate_left
              focus (intro w' hSw; obtain ⟨hs0, hs1, hs2, hs3, hs4, hs5, hs6, hs7⟩ := hSw; go_simp; try (with_reducible rfl))
              try simp only [Act.put, List.setIfInBounds_toArray, List.set_cons_zero, List.set_cons_succ]
              refine till_take 5 (v := ?_) rfl (by kernel_rfl) (fun _ _ _ h => h) (Or.inl ⟨by rfl, ?_⟩) hS ?_
              rotate_left
              focus (intro w' hSw; obtain ⟨hs0, hs1, hs2, hs3, hs4, hs5, hs6, hs7⟩ := hSw; go_simp; try (with_reducible rfl))
              try simp only [Act.put, List.setIfInBounds_toArray, List.set_cons_zero, List.set_cons_succ]
              refine till_take 6 (v := ?_) rfl (by kernel_rfl) (fun _ _ _ h => h) (Or.inl ⟨by rfl, ?_⟩) hS ?_
              rotate_left
              focus (intro w' hSw; obtain ⟨hs0, hs1, hs2, hs3, hs4, hs5, hs6, hs7⟩ := hSw; go_simp; try (with_reducible rfl))
              try simp only [Act.put, List.setIfInBounds_toArray, List.set_cons_zero, List.set_cons_succ]
              refine till_take 7 (v := ?_) rfl (by kernel_rfl) (fun _ _ _ h => h) (Or.inl ⟨by rfl, ?_⟩) hS ?_
              rotate_left
              focus (intro w' hSw; obtain ⟨hs0, hs1, hs2, hs3, hs4, hs5, hs6, hs7⟩ := hSw; go_simp; try (with_reducible rfl))
              try simp only [Act.put, List.setIfInBounds_toArray, List.set_cons_zero, List.set_cons_succ]
              refine till_take 8 (v := ?_) rfl (by kernel_rfl) (fun _ _ _ h => h) (Or.inl ⟨by rfl, ?_⟩) hS ?_
              rotate_left
              focus (intro w' hSw; obtain ⟨hs0, hs1, hs2, hs3, hs4, hs5, hs6, hs7⟩ := hSw; go_simp; try (with_reducible rfl))
              try simp only [Act.put, List.setIfInBounds_toArray, List.set_cons_zero, List.set_cons_succ]
              refine till_take 9 (v := ?_) rfl (by kernel_rfl) (fun _ _ _ h => h) (Or.inl ⟨by rfl, ?_⟩) hS ?_
              rotate_left
              focus (intro w' hSw; obtain ⟨hs0, hs1, hs2, hs3, hs4, hs5, hs6, hs7⟩ := hSw; go_simp; try (with_reducible rfl))
              try simp only [Act.put, List.setIfInBounds_toArray, List.set_cons_zero, List.set_cons_succ]
              refine till_take 10 (v := ?_) rfl (by kernel_rfl) (fun _ _ _ h => h) (Or.inl ⟨by rfl, ?_⟩) hS ?_
              rotate_left
              focus (intro w' hSw; obtain ⟨hs0, hs1, hs2, hs3, hs4, hs5, hs6, hs7⟩ := hSw; go_simp; try (with_reducible rfl))
              try simp only [Act.put, List.setIfInBounds_toArray, List.set_cons_zero, List.set_cons_succ]
              refine till_take 11 (v := ?_) rfl (by kernel_rfl) (fun _ _ _ h => h) (Or.inl ⟨by rfl, ?_⟩) hS ?_
              rotate_left
              focus (intro w' hSw; obtain ⟨hs0, hs1, hs2, hs3, hs4, hs5, hs6, hs7⟩ := hSw; go_simp; try (with_reducible rfl))
              try simp only [Act.put, List.setIfInBounds_toArray, List.set_cons_zero, List.set_cons_succ]
              refine till_ready [12] (by kernel_rfl) (TillReady.cons 12 rfl (fun K hK => ?_) TillReady.nil)
              go_simp
              have hS1 : Below wq.heap.size wq (wq.drew.alloc (.cells (encSeen (⟨⟨1 + (m8 : Int), 1 + (d8 : Int)⟩, x.key, u⟩ : SeenD)).toArray 60)) := hS0.drew.alloc (Nat.le_refl _) _
              have hS := HSK3.out _ hS1
              refine (Hid.out hK) _ _ (fun _ => hS) ?_
              try simp only [Act.put, List.setIfInBounds_toArray, List.set_cons_zero, List.set_cons_succ]
              refine till_ready [13] (by kernel_rfl) (TillReady.cons 13 rfl (fun K hK => ?_) TillReady.nil)
              refine step_append_fresh (wq.drew.alloc (.cells (encSeen (⟨⟨1 + (m8 : Int), 1 + (d8 : Int)⟩, x.key, u⟩ : SeenD)).toArray 60)) rfl (.tmp 88) (.tmp 99) 23 rfl (w1.heap.size + 2) 60 (.agg #[.int .i64 0, .int .i64 0, .string ⟨#[]⟩, .int .i64 0, .int .u64 0, .string ⟨#[]⟩]) 6 64 und23 info60' rfl (by decide) (.slice a2' SS.length k2') SS.length (SS.flatMap encSeen) (by rfl) (HAX.out.r2.drew.alloc _) ⟨wq.heap.size, 0, none⟩ 1 1 (encSeen (⟨⟨1 + (m8 : Int), 1 + (d8 : Int)⟩, x.key, u⟩ : SeenD)) (by rfl) rfl (cell_new wq.drew (encSeen (⟨⟨1 + (m8 : Int), 1 + (d8 : Int)⟩, x.key, u⟩ : SeenD)) 60) (by simp [encSeen, Value.oneCell']) (by unfold maxLen; omega) (by omega) (by have := HAX.out.size; simp; omega) ?_
              intro v5 w3 ho3 hg3 hT3
              obtain ⟨a5, c5, rfl⟩ := owns_slice ho3
              have hA1 := HAX.out.below hS1
              have hfin := hA1.push2 (x := (⟨⟨1 + (m8 : Int), 1 + (d8 : Int)⟩, x.key, u⟩ : SeenD)) ho3 hg3
              obtain ⟨y1, y2, y3⟩ := hA1.grown hg3 fun k hk => (hA1.r2.lt k hk).1
              have t1 := HTX2.out.keep hS1 HTX2.out.lt
              have t2 := t1.grown hg3 (var_not_row t1 (by decide) hA1.r2)
              have t3 := t2.other (a := ⟨w1.heap.size + 1, 1, none⟩) hTH (.slice a5 (SS.length + 1) c5)
              have t4 := HG.out.keep hS1 HG.out.lt
              have t5 := t4.grown hg3 (var_not_row t4 (by decide) hA1.r2)
              have hS3 := HSK2.out w3 t2 t5 y2 y3
              have z1 := y2.cell (j := 1) rfl
              have zf := y2.free 1
              have zl := y2.lt
              have HFIN := Lib.hid hfin
              have HTF := Lib.hid t3
              clear ho3 hg3 hT3 hfin y1 y2 y3 t1 t2 t3 t4 t5 hA1 hS
              have hS := hS3
              clear hS3
              refine (Hid.out hK) _ _ (fun _ => hS) ?_
              try simp only [Act.put, List.setIfInBounds_toArray, List.set_cons_zero, List.set_cons_succ]
              refine till_take 14 (v := ?_) rfl (by kernel_rfl) (fun _ _ _ h => h) (Or.inl ⟨by rfl, ?_⟩) hS ?_
              rotate_left
              focus (intro w' hSw; obtain ⟨hs0, hs1, hs2, hs3, hs4, hs5, hs6, hs7⟩ := hSw; go_simp; try (with_reducible rfl))
              try simp only [Act.put, List.setIfInBounds_toArray, List.set_cons_zero, List.set_cons_succ]
              refine till_ready [15] (by kernel_rfl) (TillReady.cons 15 rfl (fun K hK => ?_) TillReady.nil)
              go_simp
              refine (Hid.out hK) _ _ (fun h => absurd rfl h) ?_
              refine till_done (by kernel_rfl) ?_
              refine NoPanic.normal ?_
              go_wp2
              go_tidy
              exact ⟨⟨S1 ++ [(⟨⟨1 + (m8 : Int), 1 + (d8 : Int)⟩, x.key, u⟩ : SeenD)], _, by have := HKL.out; have := HKK.out; simp; omega, by have := HKK.out; simp; omega, by rw [← List.append_assoc, ← HSS.out]; exact HFIN.out, HTF.out, fun s hs => by
                rcases List.mem_append.1 hs with h1 | h1
                · exact HSV.out s h1
                · simp at h1; subst h1; exact ⟨HID.out.symm, HU.out⟩⟩, by have := HKL.out; have := HKK.out; simp [intOf]; omega⟩
          · have hkr : kk = rd.length := by omega
            have hok2 := HOK2.out
            have hnk : ¬ (kk : Int) < (rd.length : Int) := by omega
            have hD30 : D.length < 30 := by have := HN.out; omega
            have z0 := hA.hi.cell (j := 0) rfl
            have zl := hA.hi.lt
            have HA' := Lib.hid hA
            have HT' := Lib.hid hT
            have hTH : T ≠ w1.heap.size + 1 := by have := HTGE.out; omega
            have hLn : L.length ≤ 180 := by omega
            have hws6 : ws.length ≤ 6 := hok2.2.2
            have g27 : ∀ W v1' D', RunAt w1 last (.slice al L.length kl) v1' (.slice a2' SS.length k2') D' SS L W → Calls Try.prog 27 #[.pointer (some ⟨w1.heap.size, 0, none⟩), .int .u64 at5, .slice wa ws.length wk] W (ApEnd W w1.heap.size (w1.heap.size + 2) at5 0 ws L) := fun W v1' D' h => c27 h.st (by omega) h.size h.rl (by omega) (by omega) (by have := HATL.out; omega) HWS.out (HB1.out.trans (h.old.mono HB1.out.size)) HB1.out.size (fun x hx => ⟨(HFINE.out.2.2.2.1 x hx).1, (HFINE.out.2.2.2.1 x hx).2.1⟩) hok2.1
            have G27 := Lib.hid g27
            clear hA hT hsv hBw hSS hkk g27 hok2
            go_upto_region 22 with (first
              | (at_builtin
                 refine wpList_append_fresh (wr.alloc (.cells (encDone (⟨⟨⟨1 + (m8 : Int), 1 + (d8 : Int)⟩, rd, ws, ra, rc, wa, wk⟩, true, at5⟩ : DoneD)).toArray 50)) rfl (.tmp 103) (.tmp 107) 22 rfl (w1.heap.size + 2) 50 (.agg #[.int .i64 0, .int .i64 0, .slice none 0 0, .slice none 0 0, .bool false, .int .u64 0]) 6 80 und22' info50' rfl (by decide) (.slice av1 D.length kv1) D.length (D.flatMap encDone) (by rfl) (HA'.out.r1.alloc _) ⟨wr.heap.size, 0, none⟩ 1 1 (encDone (⟨⟨⟨1 + (m8 : Int), 1 + (d8 : Int)⟩, rd, ws, ra, rc, wa, wk⟩, true, at5⟩ : DoneD)) (by rfl) rfl (cell_new wr (encDone (⟨⟨⟨1 + (m8 : Int), 1 + (d8 : Int)⟩, rd, ws, ra, rc, wa, wk⟩, true, at5⟩ : DoneD)) 50) (by simp [encDone, Value.oneCell']) (by unfold maxLen; omega) (by omega) (by have := HA'.out.size; simp; omega) ?_
                 intro v5 w5 ho5 hg5 hT5
                 obtain ⟨a5, c5, rfl⟩ := owns_slice ho5
                 have hA6 := (HA'.out.below (below1 wr (.cells (encDone (⟨⟨⟨1 + (m8 : Int), 1 + (d8 : Int)⟩, rd, ws, ra, rc, wa, wk⟩, true, at5⟩ : DoneD)).toArray 50))).push1 ho5 hg5
                 have hT6 := var_push (HT'.out.alloc (.cells (encDone (⟨⟨⟨1 + (m8 : Int), 1 + (d8 : Int)⟩, rd, ws, ra, rc, wa, wk⟩, true, at5⟩ : DoneD)).toArray 50)) (HA'.out.r1.alloc (.cells (encDone (⟨⟨⟨1 + (m8 : Int), 1 + (d8 : Int)⟩, rd, ws, ra, rc, wa, wk⟩, true, at5⟩ : DoneD)).toArray 50)) (by decide) hg5 (a := ⟨w1.heap.size + 1, 0, none⟩) hTH (.slice a5 (D.length + 1) c5)
                 have hH5 := (HA'.out.below (below1 wr (.cells (encDone (⟨⟨⟨1 + (m8 : Int), 1 + (d8 : Int)⟩, rd, ws, ra, rc, wa, wk⟩, true, at5⟩ : DoneD)).toArray 50))).grown hg5 fun k hk => ((HA'.out.r1.alloc (.cells (encDone (⟨⟨⟨1 + (m8 : Int), 1 + (d8 : Int)⟩, rd, ws, ra, rc, wa, wk⟩, true, at5⟩ : DoneD)).toArray 50)).lt k hk).1
                 have y0 := hH5.2.1.cell (j := 0) rfl
                 have yf := hH5.2.1.free 0
                 have yl := hH5.2.1.lt
                 generalize hW6 : w5.setCell ⟨w1.heap.size + 1, 0, none⟩ (.slice a5 (D.length + 1) c5) = W6 at hA6 hT6
                 have HW6 := Lib.hid hW6
                 have HA6 := Lib.hid hA6
                 have p0 := hT6.cell (j := 0) rfl
                 have p1 := hT6.cell (j := 1) rfl
                 have p2 := hT6.cell (j := 2) rfl
                 have p3 := hT6.cell (j := 3) rfl
                 have pl := hT6.lt
                 clear ho5 hg5 hT5 hA6 hT6 hH5 hW6)
              | fail)
            rw [HW6.out]
            clear y0 yf yl z0 zl q0 q1 q2 q3 ql
            go_wp2_with (first
              | (go_at_call 27
                 refine (G27.out _ _ _ HA6.out).mono ?_
                 rintro e W7 ⟨vl', L', rfl, hap⟩
                 have HA7 := Lib.hid (HA6.out.applied hap)
                 have HSE := Lib.hid (And.intro hap.seen (And.intro hap.mem hap.len))
                 clear hap)
              | fail)
            go_tidy
            have hse := HSE.out
            rw [List.take_length] at hse
            have hinv := HINV.out.push (t := ⟨⟨1 + (m8 : Int), 1 + (d8 : Int)⟩, rd, ws, ra, rc, wa, wk⟩) HID.out.symm HATL.out HOK2.out.1 HSV.out hse.1 hse.2.1
            rw [← HSS.out] at hinv
            have hDl := HIL.out
            have hnn := HN.out
            refine ⟨⟨D ++ [(⟨⟨⟨1 + (m8 : Int), 1 + (d8 : Int)⟩, rd, ws, ra, rc, wa, wk⟩, true, at5⟩ : DoneD)], SS, L', vl', _, _, at5, hinv, HA7.out, rfl, by simp; omega, by simp; omega, by omega, by simp; have := HAT4.out; omega, by simp; have := HKK.out; omega, by simp; have := hse.2.2; omega, fun d hd => ?_⟩, by simp [intOf]; omega⟩
            rcases List.mem_append.1 hd with h1 | h1
            · exact HTX.out d h1
            · simp at h1; subst h1; exact HFINE.out.1
    · have hDt : D.length = ts.length := by omega
      have hnl : ¬ ((D.length : Nat) : Int) < (ts.length : Int) := by omega
      have HDT := Lib.hid hDt
      obtain ⟨sx, hsx⟩ : ∃ z : Int, (p : Int).tmod (last + 1) = z := ⟨_, rfl⟩
      have hsx0 : 0 ≤ sx := by rw [← hsx]; exact Int.tmod_nonneg _ (by omega)
      have hwp : IntKind.u64.wrap (p : Int) = (p : Int) := IntWalk.u64_in _ (by omega)
      have hwl : IntKind.u64.wrap (last + 1) = last + 1 := IntWalk.u64_in _ (by omega)
      have hne : ¬ (last + 1 = 0) := by omega
      have HSX := Lib.hid hsx0
      clear hinv htx hn hDt
      go_upto_region 26 with fail
      generalize hW : World.alloc _ _ = W6
      have hX : VarAt W6 wr.heap.size 64 [.int .i64 0, .int .u64 sx, .int .u64 0, .slice (some ⟨wr.heap.size + 1, 0, none⟩) 3 3, .slice none 0 0] := by rw [← hW]; exact (VarAt.new wr 64 [.int .i64 0, .int .u64 sx, .int .u64 0, .slice (some ⟨wr.heap.size + 1, 0, none⟩) 3 3, .slice none 0 0]).alloc _
      have hK : VarAt W6 (wr.heap.size + 1) 9 (keys3.map Value.string) := by
        have := VarAt.new (wr.alloc (.cells #[.int .i64 0, .int .u64 sx, .int .u64 0, .slice (some ⟨wr.heap.size + 1, 0, none⟩) 3 3, .slice none 0 0] 64)) 9 (keys3.map Value.string)
        rw [World.size_alloc] at this
        rw [← hW]; exact this
      have hB6 : Below wr.heap.size wr W6 := by rw [← hW]; exact below2 _ _ _
      have hA6 := HAT.out.below hB6
      obtain ⟨X, hXe⟩ : ∃ X, X = wr.heap.size := ⟨_, rfl⟩
      have HXG := Lib.hid (show w1.heap.size + 2 ≤ X by have := HASZ.out; omega)
      rw [← hXe] at hX hK ⊢
      have HX6 := Lib.hid hX
      have HK6 := Lib.hid hK
      have HA6 := Lib.hid hA6
      clear hW hX hK hB6 hA6 hXe hat HAT HBW hBw
      go_wp2_with fail
      go_loopw [16] (fun i wr => ∃ (V : List ValD) (vv : Value), V.length ≤ 3 ∧ i = .int .i64 (V.length : Nat) ∧ V = (keys3.take V.length).map (fun k => seenL L k sx) ∧ VarAt wr X 64 [.int .i64 0, .int .u64 sx, .int .u64 0, .slice (some ⟨X + 1, 0, none⟩) 3 3, vv] ∧ wr.ownsRow (X + 2) 47 3 vv V.length (V.flatMap encVal) ∧ VarAt wr (X + 1) 9 (keys3.map Value.string) ∧ RunAt w1 last (.slice al L.length kl) (.slice av1 D.length kv1) (.slice av2 S.length kv2) D S L wr) (fun i _ => 3 - (intOf i).toNat)
      case atStart => exact ⟨[], _, by simp, rfl, rfl, HX6.out, World.ownsRow_nil _ _ _ _, HK6.out, HA6.out⟩
      case round =>
        clear HX6 HK6 HA6
        obtain ⟨V, vv, hV3, rfl, hVe, hX, hv, hK, hA⟩ := hrel
        obtain ⟨va, vc, rfl⟩ := owns_slice hv
        obtain ⟨m, hm⟩ : ∃ m, m = V.length := ⟨_, rfl⟩
        have x3 := hX.cell (j := 3) rfl
        have x4 := hX.cell (j := 4) rfl
        have xl := hX.lt
        have xf := hX.free 4
        have HVE := Lib.hid hVe
        have HX := Lib.hid hX
        have HV := Lib.hid hv
        have HK := Lib.hid hK
        have HA := Lib.hid hA
        have HM := Lib.hid hm
        rcases Nat.lt_or_ge m 3 with hlt | hge
        · obtain ⟨key, hkey⟩ : ∃ key, keys3[m]? = some key := ⟨keys3[m]'(by simpa [keys3] using hlt), List.getElem?_eq_getElem _⟩
          have hkc : wr.cell? ⟨X + 1, m, none⟩ = some (.string key) := hK.cell (j := m) (by rw [List.getElem?_map, hkey]; rfl)
          have hmI : (m : Int) < 3 := by omega
          obtain ⟨u, hu⟩ : ∃ u, u = seenL L key sx := ⟨_, rfl⟩
          have g26 : ∀ W, Below wr.heap.size wr W → Calls Try.prog 26 #[.pointer (some ⟨w1.heap.size, 0, none⟩), .string key, .int .u64 sx] W (SeenCall u wr W) := fun W hb => (c26 (hA.below hb).st (RowOf.of_owns encItem_len (hA.below hb).rl rfl) key sx).mono fun e w' ⟨h1, h2⟩ => ⟨by rw [hu]; exact h1, hb.trans (h2.mono hb.size), h2⟩
          have sk : ∀ W, Below wr.heap.size wr W → R29S X m sx key W := fun W hb => ⟨(hX.keep hb hX.lt).cell (j := 3) rfl, (hX.keep hb hX.lt).cell (j := 1) rfl, (hK.keep hb hK.lt).cell (j := m) (by rw [List.getElem?_map, hkey]; rfl)⟩
          have SK := Lib.hid sk
          have G26 := Lib.hid g26
          have HU := Lib.hid hu
          have HKEY := Lib.hid hkey
          have hS0 : Below wr.heap.size wr wr := Below.refl _ _
          have hS1 : Below wr.heap.size wr (wr.alloc (.cells (encVal zeroVal).toArray 47)).drew := (hS0.alloc (Nat.le_refl _) _).drew
          rw [← hm] at hV3 ⊢
          clear hA hX hK hv hVe hkc g26 sk hu hkey x3 x4 xl xf hm
          go_upto_region 29 with fail
          go_cut [17, 18] from 122 to 142 (fun p nv wx => ∃ (g : Nat) (n' : Int), p = .pointer (some ⟨g, 0, none⟩) ∧ nv = .int .u64 n' ∧ VarAt wx g 47 (encVal u) ∧ Below wr.heap.size wr wx ∧ wr.heap.size ≤ g)
          case first => as_aux_lemma =>
            refine wp_region_noPanic ?_
            refine till_start (R29S X m sx key) 13 (by kernel_rfl) ?_
            have hS := SK.out wr.drew hS0.drew
            show AnyTill _ _ _ _ _ _ 14 (Array.replicate 14 false) _ _
            refine till_take 0 (v := ?_) rfl (by kernel_rfl) (fun _ _ _ h => h) (Or.inl ⟨by rfl, ?_⟩) hS ?_
            rotate_left
            focus (intro w' hSw; obtain ⟨hs0, hs1, hs2⟩ := hSw; go_simp; try (with_reducible rfl))
            try simp only [Act.put, List.setIfInBounds_toArray, List.set_cons_zero, List.set_cons_succ]
            refine till_take 1 (v := ?_) rfl (by kernel_rfl) (fun _ _ _ h => h) (Or.inl ⟨by rfl, ?_⟩) hS ?_
            rotate_left
            focus (intro w' hSw; obtain ⟨hs0, hs1, hs2⟩ := hSw; go_simp; try (with_reducible rfl))
            try simp only [Act.put, List.setIfInBounds_toArray, List.set_cons_zero, List.set_cons_succ]
            refine till_take 2 (v := ?_) rfl (by kernel_rfl) (fun _ _ _ h => h) (Or.inl ⟨by rfl, ?_⟩) hS ?_
            rotate_left
            focus (intro w' hSw; obtain ⟨hs0, hs1, hs2⟩ := hSw; go_simp; try (with_reducible rfl))
            try simp only [Act.put, List.setIfInBounds_toArray, List.set_cons_zero, List.set_cons_succ]
            refine till_take 3 (v := ?_) rfl (by kernel_rfl) (fun _ _ _ h => h) (Or.inl ⟨by rfl, ?_⟩) hS ?_
            rotate_left
            focus (intro w' hSw; obtain ⟨hs0, hs1, hs2⟩ := hSw; go_simp; try (with_reducible rfl))
            try simp only [Act.put, List.setIfInBounds_toArray, List.set_cons_zero, List.set_cons_succ]
            refine till_take 4 (v := ?_) rfl (by kernel_rfl) (fun _ _ _ h => h) (Or.inl ⟨by rfl, ?_⟩) hS ?_
            rotate_left
            focus (intro w' hSw; obtain ⟨hs0, hs1, hs2⟩ := hSw; go_simp; try (with_reducible rfl))
            try simp only [Act.put, List.setIfInBounds_toArray, List.set_cons_zero, List.set_cons_succ]
            refine till_take 5 (v := ?_) rfl (by kernel_rfl) (fun _ _ _ h => h) (Or.inl ⟨by rfl, ?_⟩) hS ?_
            rotate_left
            focus (intro w' hSw; obtain ⟨hs0, hs1, hs2⟩ := hSw; go_simp; try (with_reducible rfl))
            try simp only [Act.put, List.setIfInBounds_toArray, List.set_cons_zero, List.set_cons_succ]
            refine till_take 6 (v := ?_) rfl (by kernel_rfl) (fun _ _ _ h => h) (Or.inl ⟨by rfl, ?_⟩) hS ?_
            rotate_left
            focus (intro w' hSw; obtain ⟨hs0, hs1, hs2⟩ := hSw; go_simp; try (with_reducible rfl))
            try simp only [Act.put, List.setIfInBounds_toArray, List.set_cons_zero, List.set_cons_succ]
            refine till_ready [7, 11] (by kernel_rfl) (TillReady.cons 7 rfl (fun K hK => ?_) (TillReady.cons 11 rfl (fun K hK => ?_) TillReady.nil))
            · go_simp
              refine (G26.out wr.drew hS0.drew).mono ?_
              rintro e w9 ⟨⟨n9, rfl⟩, -, hb9⟩
              have hb5 : Below wr.heap.size wr w9 := hS0.drew.trans hb9
              clear hS
              have hS := SK.out w9 hb5
              refine (Hid.out hK) _ _ (fun _ => hS) ?_
              try simp only [Act.put, List.setIfInBounds_toArray, List.set_cons_zero, List.set_cons_succ]
              refine till_take 8 (v := ?_) rfl (by kernel_rfl) (fun _ _ _ h => h) (Or.inl ⟨by rfl, ?_⟩) hS ?_
              rotate_left
              focus (intro w' hSw; obtain - := hSw; go_simp; try (with_reducible rfl))
              try simp only [Act.put, List.setIfInBounds_toArray, List.set_cons_zero, List.set_cons_succ]
              refine till_take 9 (v := ?_) rfl (by kernel_rfl) (fun _ _ _ h => h) (Or.inl ⟨by rfl, ?_⟩) hS ?_
              rotate_left
              focus (intro w' hSw; obtain - := hSw; go_simp; try (with_reducible rfl))
              try simp only [Act.put, List.setIfInBounds_toArray, List.set_cons_zero, List.set_cons_succ]
              refine till_take 10 (v := ?_) rfl (by kernel_rfl) (fun _ _ _ h => h) (Or.inl ⟨by rfl, ?_⟩) hS ?_
              rotate_left
              focus (intro w' hSw; obtain - := hSw; go_simp; try (with_reducible rfl))
              try simp only [Act.put, List.setIfInBounds_toArray, List.set_cons_zero, List.set_cons_succ]
              refine till_ready [11] (by kernel_rfl) (TillReady.cons 11 rfl (fun K hK => ?_) TillReady.nil)
              go_simp
              have hb6 := hb5.alloc hb5.size (.cells (encVal zeroVal).toArray 47)
              have hS := SK.out _ hb6
              refine (Hid.out hK) _ _ (fun _ => hS) ?_
              try simp only [Act.put, List.setIfInBounds_toArray, List.set_cons_zero, List.set_cons_succ]
              refine till_ready [12] (by kernel_rfl) (TillReady.cons 12 rfl (fun K hK => ?_) TillReady.nil)
              go_simp
              have hb7 := hb5.alloc hb5.size (.cells (encVal u).toArray 47)
              have hS := SK.out _ hb7
              refine (Hid.out hK) _ _ (fun _ => hS) ?_
              try simp only [Act.put, List.setIfInBounds_toArray, List.set_cons_zero, List.set_cons_succ]
              refine till_ready [13] (by kernel_rfl) (TillReady.cons 13 rfl (fun K hK => ?_) TillReady.nil)
              go_simp
              refine (Hid.out hK) _ _ (fun h => absurd rfl h) ?_
              refine till_done (by kernel_rfl) ?_
              refine NoPanic.normal ?_
              go_wp2
              go_meet
              exact ⟨_, _, rfl, rfl, VarAt.new w9 47 (encVal u), hb7, hb5.size⟩
            · go_simp
              clear hS
              have hS := SK.out _ hS1
              refine (Hid.out hK) _ _ (fun _ => hS) ?_
              try simp only [Act.put, List.setIfInBounds_toArray, List.set_cons_zero, List.set_cons_succ]
              refine till_ready [7] (by kernel_rfl) (TillReady.cons 7 rfl (fun K hK => ?_) TillReady.nil)
              go_simp
              refine (G26.out (wr.alloc (.cells (encVal zeroVal).toArray 47)).drew hS1).mono ?_
              rintro e w9 ⟨⟨n9, rfl⟩, -, hb6⟩
              have hb5 : Below wr.heap.size wr w9 := hS1.trans (hb6.mono hS1.size)
              clear hS
              have hS := SK.out w9 hb5
              have hn := VarAt.keep (VarAt.new wr 47 (encVal zeroVal)).drew hb6 (by simp)
              have n0 := hn.cell (j := 0) rfl
              have n1 := hn.cell (j := 1) rfl
              have n2 := hn.cell (j := 2) rfl
              have k0 := hn.free 0
              have k1 := hn.free 1
              have k2 := hn.free 2
              have hl5 := hn.lt
              have HN := Lib.hid hn
              clear hn hb6
              refine (Hid.out hK) _ _ (fun _ => hS) ?_
              try simp only [Act.put, List.setIfInBounds_toArray, List.set_cons_zero, List.set_cons_succ]
              refine till_take 8 (v := ?_) rfl (by kernel_rfl) (fun _ _ _ h => h) (Or.inl ⟨by rfl, ?_⟩) hS ?_
              rotate_left
              focus (intro w' hSw; obtain - := hSw; go_simp; try (with_reducible rfl))
              try simp only [Act.put, List.setIfInBounds_toArray, List.set_cons_zero, List.set_cons_succ]
              refine till_take 9 (v := ?_) rfl (by kernel_rfl) (fun _ _ _ h => h) (Or.inl ⟨by rfl, ?_⟩) hS ?_
              rotate_left
              focus (intro w' hSw; obtain - := hSw; go_simp; try (with_reducible rfl))
              try simp only [Act.put, List.setIfInBounds_toArray, List.set_cons_zero, List.set_cons_succ]
              refine till_take 10 (v := ?_) rfl (by kernel_rfl) (fun _ _ _ h => h) (Or.inl ⟨by rfl, ?_⟩) hS ?_
              rotate_left
              focus (intro w' hSw; obtain - := hSw; go_simp; try (with_reducible rfl))
              try simp only [Act.put, List.setIfInBounds_toArray, List.set_cons_zero, List.set_cons_succ]
              refine till_ready [12] (by kernel_rfl) (TillReady.cons 12 rfl (fun K hK => ?_) TillReady.nil)
              go_simp
              have hb7 : Below wr.heap.size wr (((w9.setCell ⟨wr.heap.size, 0, none⟩ (.int .i64 u.kind)).setCell ⟨wr.heap.size, 1, none⟩ (.int .u64 u.bits)).setCell ⟨wr.heap.size, 2, none⟩ (.string u.text)) := ((hb5.setCell (Nat.le_refl _) _).setCell (Nat.le_refl _) _).setCell (Nat.le_refl _) _
              have hS := SK.out _ hb7
              refine (Hid.out hK) _ _ (fun _ => hS) ?_
              try simp only [Act.put, List.setIfInBounds_toArray, List.set_cons_zero, List.set_cons_succ]
              refine till_ready [13] (by kernel_rfl) (TillReady.cons 13 rfl (fun K hK => ?_) TillReady.nil)
              go_simp
              refine (Hid.out hK) _ _ (fun h => absurd rfl h) ?_
              refine till_done (by kernel_rfl) ?_
              refine NoPanic.normal ?_
              go_wp2
              go_meet
              exact ⟨_, _, rfl, rfl, ((HN.out.set 0 (.int .i64 u.kind)).set 1 (.int .u64 u.bits)).set 2 (.string u.text), hb7, Nat.le_refl _⟩
          case rest =>
            obtain ⟨g, n', rfl, rfl, hg, hbx, hgl⟩ := hcut
            obtain ⟨wq, rfl⟩ : ∃ wq : World, wq = wc := ⟨_, rfl⟩
            have hX := HX.out.keep hbx HX.out.lt
            have g0 := hg.cell (j := 0) rfl
            have g1 := hg.cell (j := 1) rfl
            have g2 := hg.cell (j := 2) rfl
            have gl := hg.lt
            have x4 := hX.cell (j := 4) rfl
            have xl := hX.lt
            have HB := Lib.hid hbx
            have hvq := ownsRow_below HV.out hbx
            have hxsz : X + 2 ≤ wr.heap.size := HK.out.lt
            have hxq : X + 2 ≤ wq.heap.size := Nat.le_trans hxsz hbx.size
            have HVQ := Lib.hid hvq
            have hmV : V.length ≤ 3 := by have := HM.out; omega
            clear hX hg hbx hvq
            go_wp2_with (first
              | (at_builtin
                 refine wpList_append_fresh (wq.alloc (.cells (encVal u).toArray 47)) rfl (.tmp 138) (.tmp 140) 62 rfl (X + 2) 47 (.agg #[.int .i64 0, .int .u64 0, .string ⟨#[]⟩]) 3 32 und62 info47' rfl (by decide) (.slice va V.length vc) V.length (V.flatMap encVal) (by rfl) (HVQ.out.alloc _) ⟨wq.heap.size, 0, none⟩ 1 1 (encVal u) (by rfl) rfl (cell_new wq (encVal u) 47) (by simp [encVal, Value.oneCell']) (by unfold maxLen; omega) (by omega) (by simp; omega) ?_
                 intro v5 w5 ho5 hg5 hT5
                 obtain ⟨a5, c5, rfl⟩ := owns_slice ho5
                 have hba : Below wr.heap.size wr (wq.alloc (.cells (encVal u).toArray 47)) := HB.out.alloc HB.out.size _
                 have hva := HVQ.out.alloc (.cells (encVal u).toArray 47)
                 have hX1 := (HX.out.keep hba HX.out.lt).grown hg5 fun e => by have := (hva.lt _ e.symm).1; omega
                 have hK1 := (HK.out.keep hba HK.out.lt).grown hg5 fun e => by have := (hva.lt _ e.symm).1; omega
                 have hA1 := (HA.out.below hba).valsGrow hva (by have := HXG.out; omega) (by decide) hg5
                 have hX2 := hX1.set 4 (.slice a5 (V.length + 1) c5)
                 have hK2 := hK1.other (a := ⟨X, 4, none⟩) (by simp) (.slice a5 (V.length + 1) c5)
                 have hA2 := hA1.boxSet hX1 HXG.out (by decide) 4 (.slice a5 (V.length + 1) c5)
                 have ho6 := owns_set ho5 (a := ⟨X, 4, none⟩) (by simp) (.slice a5 (V.length + 1) c5)
                 have y4 := hX1.cell (j := 4) rfl
                 have yf := hX1.free 4
                 have yl := hX1.lt
                 have HX2 := Lib.hid hX2
                 have HK2 := Lib.hid hK2
                 have HA2 := Lib.hid hA2
                 have HO6 := Lib.hid ho6
                 clear ho5 hg5 hT5 hba hva hX1 hK1 hA1 hX2 hK2 hA2 ho6)
              | fail)
            go_tidy
            have hmm := HM.out
            refine ⟨⟨V ++ [u], .slice a5 (V.length + 1) c5, by simp; omega, by simp; omega, ?_, HX2.out, ?_, HK2.out, HA2.out⟩, by simp [intOf]; omega⟩
            · rw [List.length_append, List.length_singleton, List.take_add_one, List.map_append, ← HVE.out, ← hmm, HKEY.out, HU.out]; rfl
            · rw [List.length_append, List.flatMap_append]; simpa using HO6.out
        · have HVL := Lib.hid (show V.length = 3 by omega)
          have hn3 : ¬ (m : Int) < 3 := by omega
          have HM3 := Lib.hid (show m = 3 by omega)
          have z2 := hA.hi.cell (j := 2) rfl
          have zl := hA.hi.lt
          have x0 := hX.cell (j := 0) rfl
          have x1 := hX.cell (j := 1) rfl
          have x2 := hX.cell (j := 2) rfl
          rw [← hm] at hV3 ⊢
          clear hA hX hK hv hVe xf hm
          go_upto_region 32 with (first
            | (at_builtin
               refine wpList_append_fresh (wr.alloc (.cells (encSnap (⟨0, sx, 0, keys3, V, some ⟨X + 1, 0, none⟩, 3, va, vc⟩ : SnapD)).toArray 64)) rfl (.tmp 144) (.tmp 146) 24 rfl (wr.heap.size) 64 (.agg #[.int .i64 0, .int .u64 0, .int .u64 0, .slice none 0 0, .slice none 0 0]) 5 72 und24 info64' rfl (by decide) (.slice none 0 0) 0 [] (by rfl) (World.ownsRow_nil _ _ _ _) ⟨wr.heap.size, 0, none⟩ 1 1 (encSnap (⟨0, sx, 0, keys3, V, some ⟨X + 1, 0, none⟩, 3, va, vc⟩ : SnapD)) (by rfl) rfl (cell_new wr (encSnap (⟨0, sx, 0, keys3, V, some ⟨X + 1, 0, none⟩, 3, va, vc⟩ : SnapD)) 64) (by simp [encSnap, Value.oneCell']) (by unfold maxLen; omega) (by omega) (by simp) ?_
               intro v5 w5 ho5 hg5 hT5
               obtain ⟨a5, c5, rfl⟩ := owns_slice ho5
               have hb5 : Below wr.heap.size wr w5 := (below1 wr (.cells (encSnap (⟨0, sx, 0, keys3, V, some ⟨X + 1, 0, none⟩, 3, va, vc⟩ : SnapD)).toArray 64)).grown hg5 (by simp) fun k hk => by cases hk
               have hA1 := HA.out.below hb5
               have y2 := hA1.hi.cell (j := 2) rfl
               have yf := hA1.hi.free 2
               have yl := hA1.hi.lt
               have HO5 := Lib.hid ho5
               have HB5 := Lib.hid hb5
               clear ho5 hg5 hT5 hA1 hb5)
            | fail)
          generalize hW8 : World.setCell _ _ _ = W8
          have hA5 := HA.out.below HB5.out
          have hH8 : VarAt W8 (w1.heap.size + 1) 26 [.slice av1 D.length kv1, .slice av2 S.length kv2, .slice a5 1 c5] := by rw [← hW8]; exact hA5.hi.set 2 _
          have hr1 : W8.ownsRow (w1.heap.size + 2) 50 6 (.slice av1 D.length kv1) D.length (D.flatMap encDone) := by rw [← hW8]; exact owns_set hA5.r1 (by simp) _
          have hr2 : W8.ownsRow (w1.heap.size + 2) 60 6 (.slice av2 S.length kv2) S.length (S.flatMap encSeen) := by rw [← hW8]; exact owns_set hA5.r2 (by simp) _
          have hr5 : W8.ownsRow wr.heap.size 64 5 (.slice a5 1 c5) 1 ([(⟨0, sx, 0, keys3, V, some ⟨X + 1, 0, none⟩, 3, va, vc⟩ : SnapD)].flatMap encSnap) := by rw [← hW8]; exact owns_set HO5.out (by have := HA.out.size; simp; omega) _
          have hK8 : VarAt W8 (X + 1) 9 (keys3.map Value.string) := by rw [← hW8]; exact (HK.out.keep HB5.out HK.out.lt).other (by have := HXG.out; simp; omega) _
          have hv8 : W8.ownsRow (X + 2) 47 3 (.slice va V.length vc) V.length (V.flatMap encVal) := by rw [← hW8]; exact owns_set (ownsRow_below HV.out HB5.out) (by have := HXG.out; simp; omega) _
          have hb8 : Below w1.heap.size w1 W8 := by rw [← hW8]; exact hA5.old.setCell (by simp) _
          have hvals : V = keys3.map fun k => seenL L k sx := by
            have h0 := HVE.out
            rw [HVL.out] at h0
            exact h0
          have hfin : ∀ W S', VarAt W (X + 1) 9 (keys3.map Value.string) → W.ownsRow (X + 2) 47 3 (.slice va V.length vc) V.length (V.flatMap encVal) → W.ownsRow (w1.heap.size + 2) 50 6 (.slice av1 D.length kv1) D.length (D.flatMap encDone) → W.ownsRow (w1.heap.size + 2) 60 6 (.slice av2 S.length kv2) S.length (S'.flatMap encSeen) → W.ownsRow wr.heap.size 64 5 (.slice a5 1 c5) 1 ([(⟨0, sx, 0, keys3, V, some ⟨X + 1, 0, none⟩, 3, va, vc⟩ : SnapD)].flatMap encSnap) → Below w1.heap.size w1 W → S'.length = S.length → HistOk W ⟨D, S', [(⟨0, sx, 0, keys3, V, some ⟨X + 1, 0, none⟩, 3, va, vc⟩ : SnapD)], av1, kv1, av2, kv2, a5, c5⟩ := fun W S' h1 h2 h3 h4 h5 h6 h7 => by
            refine ⟨RowOf.of_owns (fun _ => rfl) h3 rfl, ?_, RowOf.of_owns (fun _ => rfl) h5 rfl, fun d hd => (HTX.out d hd).keep (HB1.out.trans (h6.mono HB1.out.size)), fun x hx => ?_⟩
            · simp only [HistD.sv]
              rw [h7]
              exact RowOf.of_owns (fun _ => rfl) h4 h7.symm
            · simp at hx; subst hx
              refine ⟨⟨some ⟨X + 1, 0, none⟩, 3, rfl, by simp [keys3], by simp [maxLen], fun _ => ⟨X + 1, 0, rfl, h1.lt, fun i j x u hx hu => ?_⟩⟩, RowOf.of_owns (fun _ => rfl) h2 rfl⟩
              cases j with
              | zero =>
                simp [encStr] at hu; subst hu
                rw [Nat.zero_add, Nat.mul_one, Nat.add_zero]
                exact h1.cell (j := i) (by simp only at hx; rw [List.getElem?_map, hx]; rfl)
              | succ j => simp [encStr] at hu
          have hok := hfin W8 S hK8 hv8 hr1 hr2 hr5 hb8 rfl
          have hD30 : D.length ≤ 30 := by have := HDT.out; omega
          have hz8 : Below W8.heap.size W8 W8 := Below.refl _ _
          have t18 : ∀ W, Below W8.heap.size W8 W → Calls Try.prog 18 #[.agg #[.slice av1 D.length kv1, .slice av2 S.length kv2, .slice a5 1 c5]] W fun e w' => e = .returned (.bool true) ∧ Below W8.heap.size W8 w' := fun W hb => (c18 (hok.keep hb)).mono fun e w' ⟨b, h1, h2, h3⟩ => ⟨by rw [h1, h2.2 HINV.out.single], hb.trans (h3.mono hb.size)⟩
          have t20 : ∀ W, Below W8.heap.size W8 W → Calls Try.prog 20 #[.agg #[.slice av1 D.length kv1, .slice av2 S.length kv2, .slice a5 1 c5]] W fun e w' => e = .returned (.bool true) ∧ Below W8.heap.size W8 w' := fun W hb => (c20 (hok.keep hb) hD30).mono fun e w' ⟨b, h1, h2, h3⟩ => ⟨by rw [h1, h2.2 HINV.out.serial], hb.trans (h3.mono hb.size)⟩
          have t22 : ∀ W, Below W8.heap.size W8 W → Calls Try.prog 22 #[.agg #[.slice av1 D.length kv1, .slice av2 S.length kv2, .slice a5 1 c5]] W fun e w' => e = .returned (.bool true) ∧ Below W8.heap.size W8 w' := fun W hb => (c22 (hok.keep hb) hD30).mono fun e w' ⟨b, h1, h2, h3⟩ => ⟨by rw [h1, h2.2 (HINV.out.snap (x := (⟨0, sx, 0, keys3, V, some ⟨X + 1, 0, none⟩, 3, va, vc⟩ : SnapD)) (by have := HSX.out; simp only; omega) hvals)], hb.trans (h3.mono hb.size)⟩
          have G18 := Lib.hid t18
          have G20 := Lib.hid t20
          have G22 := Lib.hid t22
          have H8 := Lib.hid hH8
          have HR1 := Lib.hid hr1
          have HR2 := Lib.hid hr2
          have HR5 := Lib.hid hr5
          have HK8 := Lib.hid hK8
          have HV8 := Lib.hid hv8
          have HB8 := Lib.hid hb8
          have HFIN := Lib.hid hfin
          have y0 := hH8.cell (j := 0) rfl
          have y1 := hH8.cell (j := 1) rfl
          have y2 := hH8.cell (j := 2) rfl
          have yl := hH8.lt
          clear hW8 hA5 hH8 hr1 hr2 hr5 hK8 hv8 hb8 hok t18 t20 t22 hfin x0 x1 x2 x3 x4 xl z2 zl hvals
          by_cases hS0 : S.length = 0
          · have hs0 : ((S.length : Int) == 0) = true := by simpa using hS0
            clear hS0
            go_wp2_with (first
              | (go_at_call 18
                 refine (G18.out _ hz8).mono ?_
                 rintro e Wa ⟨rfl, hza⟩
                 have hHa := H8.out.keep hza H8.out.lt
                 have ya0 := hHa.cell (j := 0) rfl
                 have ya1 := hHa.cell (j := 1) rfl
                 have ya2 := hHa.cell (j := 2) rfl
                 have yal := hHa.lt
                 have HZA := Lib.hid hza
                 clear hza hHa)
              | (go_at_call 20
                 refine (G20.out _ HZA.out).mono ?_
                 rintro e Wb ⟨rfl, hzb⟩
                 have hHb := H8.out.keep hzb H8.out.lt
                 have yb0 := hHb.cell (j := 0) rfl
                 have yb1 := hHb.cell (j := 1) rfl
                 have yb2 := hHb.cell (j := 2) rfl
                 have ybl := hHb.lt
                 have HZB := Lib.hid hzb
                 clear hzb hHb)
              | (go_at_call 22
                 refine (G22.out _ HZB.out).mono ?_
                 rintro e Wc ⟨rfl, hzc⟩
                 have hHc := H8.out.keep hzc H8.out.lt
                 have yc1 := hHc.cell (j := 1) rfl
                 have ycl := hHc.lt
                 have HZC := Lib.hid hzc
                 clear hzc hHc)
              | fail)
            go_tidy
            exact END.out _ (HB1.out.trans ((HB8.out.trans (HZC.out.mono HB8.out.size)).mono HB1.out.size))
          · have hs0 : ((S.length : Int) == 0) = false := by simpa using hS0
            have hSp : 0 < S.length := by omega
            obtain ⟨g, rfl, hgb⟩ := owns_at HR2.out hSp
            obtain ⟨k, hk, hkl⟩ : ∃ k : Nat, (p : Int).tmod (S.length : Int) = (k : Int) ∧ k < S.length := ⟨p % S.length, by rw [Int.tmod_eq_emod_of_nonneg (by omega)]; omega, Nat.mod_lt _ hSp⟩
            have hne0 : ¬ (S.length : Int) = 0 := by omega
            have hSne : ¬ S = [] := fun e => by rw [e] at hSp; simp at hSp
            have hwp2 : IntKind.i64.wrap (p : Int) = (p : Int) := IntWalk.i64_in _ (by omega)
            have hwk : IntKind.i64.wrap (k : Int) = (k : Int) := IntWalk.i64_in _ (by have := HINV.out.small; omega)
            have hkI : (k : Int) < (S.length : Int) := by omega
            have HGB := Lib.hid hgb
            have HKL := Lib.hid hkl
            clear hS0 hgb hkl
            go_upto_region 37 with (first
              | (go_at_call 18
                 refine (G18.out _ hz8).mono ?_
                 rintro e Wa ⟨rfl, hza⟩
                 have hHa := H8.out.keep hza H8.out.lt
                 have ya0 := hHa.cell (j := 0) rfl
                 have ya1 := hHa.cell (j := 1) rfl
                 have ya2 := hHa.cell (j := 2) rfl
                 have yal := hHa.lt
                 have HZA := Lib.hid hza
                 clear hza hHa)
              | (go_at_call 20
                 refine (G20.out _ HZA.out).mono ?_
                 rintro e Wb ⟨rfl, hzb⟩
                 have hHb := H8.out.keep hzb H8.out.lt
                 have yb0 := hHb.cell (j := 0) rfl
                 have yb1 := hHb.cell (j := 1) rfl
                 have yb2 := hHb.cell (j := 2) rfl
                 have ybl := hHb.lt
                 have HZB := Lib.hid hzb
                 clear hzb hHb)
              | (go_at_call 22
                 refine (G22.out _ HZB.out).mono ?_
                 rintro e Wc ⟨rfl, hzc⟩
                 have hHc := H8.out.keep hzc H8.out.lt
                 have yc1 := hHc.cell (j := 1) rfl
                 have ycl := hHc.lt
                 have HZC := Lib.hid hzc
                 clear hzc hHc)
              | fail)
            have hzc := HZC.out
            have hr2c := ownsRow_below HR2.out hzc
            have hr1c := ownsRow_below HR1.out hzc
            have hr5c := ownsRow_below HR5.out hzc
            have hv8c := ownsRow_below HV8.out hzc
            have hK8c := HK8.out.keep hzc HK8.out.lt
            have hHc := H8.out.keep hzc H8.out.lt
            have hbc := HB8.out.trans (hzc.mono HB8.out.size)
            obtain ⟨b9, o9, s, hbe, hb9, hs, -, -, -, c3, c4, c5c⟩ := (RowOf.of_owns (fun _ => rfl) hr2c rfl : RowOf encSeen 6 Wc (.slice (some ⟨g, 0, none⟩) S.length kv2) S).seenAt HKL.out
            cases hbe
            rw [Nat.zero_add] at c3 c4 c5c
            have hsm : s.val.text.size ≤ 40 := HINV.out.small s (List.mem_of_getElem? hs)
            have hcat : ¬ 9223372036854775807 < s.val.text.size + 1 := by omega
            have f3 : Wc.frozen? ⟨g, k * 6 + 3, none⟩ = false := owns_free hr2c _
            have f4 : Wc.frozen? ⟨g, k * 6 + 4, none⟩ = false := owns_free hr2c _
            have f5 : Wc.frozen? ⟨g, k * 6 + 5, none⟩ = false := owns_free hr2c _
            have sk : ∀ W, Below Wc.heap.size Wc W → R37S (w1.heap.size + 1) g k (.slice (some ⟨g, 0, none⟩) S.length kv2) s.val.text W := fun W hb => ⟨(hHc.keep hb hHc.lt).cell (j := 1) rfl, by rw [hb.cell (p := ⟨g, k * 6 + 5, none⟩) hb9]; exact c5c⟩
            have SK := Lib.hid sk
            have hset := own_set3 (show Wc.drew.ownsRow (w1.heap.size + 2) 60 6 (.slice (some ⟨g, 0, none⟩) S.length kv2) S.length (S.flatMap encSeen) from hr2c) hs (wrongVal s.val)
            have hgr : Wc.grownBy (((Wc.drew.setCell ⟨g, k * 6 + 3, none⟩ (.int .i64 (wrongVal s.val).kind)).setCell ⟨g, k * 6 + 4, none⟩ (.int .u64 (wrongVal s.val).bits)).setCell ⟨g, k * 6 + 5, none⟩ (.string (wrongVal s.val).text)) (some g) := by
              refine ⟨rfl, rfl, rfl, by simp, fun i _ hne => ?_⟩
              have hig : i ≠ g := fun e => hne (by rw [e])
              rw [Below.heap_setCell _ _ _ i hig, Below.heap_setCell _ _ _ i hig, Below.heap_setCell _ _ _ i hig]
              rfl
            have hH9 := hHc.grown hgr (fun e => by injection e with e; have := HGB.out; omega)
            have hK9 := hK8c.grown hgr (var_not_row hK8c (by decide) hr2c)
            have hr1d := hr1c.kept hgr (owns_ne hr1c hr2c (by decide))
            have hr5d := hr5c.kept hgr (owns_ne hr5c hr2c (by decide))
            have hv8d := hv8c.kept hgr (owns_ne hv8c hr2c (by decide))
            have hb9d := hbc.grown hgr hbc.size fun j hj => by injection hj with hj; have := HGB.out; omega
            have hok9 := HFIN.out _ (S.set k ⟨s.id, s.key, wrongVal s.val⟩) hK9 hv8d hr1d (by simpa using hset) hr5d hb9d (by simp)
            have hno := HINV.out.wrong hs
            have c20w := (c20 hok9 hD30).mono (R' := fun e w' => e = .returned (.bool false) ∧ Below w.heap.size w w') fun e w' ⟨b, h1, h2, h3⟩ => by
              refine ⟨?_, HB1.out.trans ((hb9d.trans (h3.mono hb9d.size)).mono HB1.out.size)⟩
              cases b with
              | false => exact h1
              | true => exact absurd (h2.1 rfl) hno
            have C20W := Lib.hid c20w
            have HH9 := Lib.hid hH9
            clear sk hset hgr hH9 hK9 hr1d hr5d hv8d hb9d hok9 hno c20w hr2c hr1c hr5c hv8c hK8c hHc hbc hs hzc hwp hwl hwp2 hk
            refine wp_region_noPanic ?_
            refine till_start (R37S (w1.heap.size + 1) g k (.slice (some ⟨g, 0, none⟩) S.length kv2) s.val.text) 14 (by kernel_rfl) ?_
            have hS := SK.out Wc.drew (Below.refl _ _).drew
            show AnyTill _ _ _ _ _ _ 15 (Array.replicate 15 false) _ _
            refine till_take 0 (v := ?_) rfl (by kernel_rfl) (fun _ _ _ h => h) (Or.inl ⟨by rfl, ?_⟩) hS ?_
            rotate_left
            focus (intro w' hSw; obtain ⟨hs0, hs1⟩ := hSw; go_simp; try (with_reducible rfl))
            try simp only [Act.put, List.setIfInBounds_toArray, List.set_cons_zero, List.set_cons_succ]
            refine till_take 1 (v := ?_) rfl (by kernel_rfl) (fun _ _ _ h => h) (Or.inl ⟨by rfl, ?_⟩) hS ?_
            rotate_left
            focus (intro w' hSw; obtain ⟨hs0, hs1⟩ := hSw; go_simp; try (with_reducible rfl))
            try simp only [Act.put, List.setIfInBounds_toArray, List.set_cons_zero, List.set_cons_succ]
            refine till_take 2 (v := ?_) rfl (by kernel_rfl) (fun _ _ _ h => h) (Or.inl ⟨by rfl, ?_⟩) hS ?_
            rotate_left
            focus (intro w' hSw; obtain ⟨hs0, hs1⟩ := hSw; go_simp; try (with_reducible rfl))
            try simp only [Act.put, List.setIfInBounds_toArray, List.set_cons_zero, List.set_cons_succ]
            refine till_take 3 (v := ?_) rfl (by kernel_rfl) (fun _ _ _ h => h) (Or.inl ⟨by rfl, ?_⟩) hS ?_
            rotate_left
            focus (intro w' hSw; obtain ⟨hs0, hs1⟩ := hSw; go_simp; try (with_reducible rfl))
            try simp only [Act.put, List.setIfInBounds_toArray, List.set_cons_zero, List.set_cons_succ]
            refine till_take 4 (v := ?_) rfl (by kernel_rfl) (fun _ _ _ h => h) (Or.inl ⟨by rfl, ?_⟩) hS ?_
            rotate_left
            focus (intro w' hSw; obtain ⟨hs0, hs1⟩ := hSw; go_simp; try (with_reducible rfl))
            try simp only [Act.put, List.setIfInBounds_toArray, List.set_cons_zero, List.set_cons_succ]
            refine till_take 5 (v := ?_) rfl (by kernel_rfl) (fun _ _ _ h => h) (Or.inl ⟨by rfl, ?_⟩) hS ?_
            rotate_left
            focus (intro w' hSw; obtain ⟨hs0, hs1⟩ := hSw; go_simp; try (with_reducible rfl))
            try simp only [Act.put, List.setIfInBounds_toArray, List.set_cons_zero, List.set_cons_succ]
            refine till_take 6 (v := ?_) rfl (by kernel_rfl) (fun _ _ _ h => h) (Or.inl ⟨by rfl, ?_⟩) hS ?_
            rotate_left
            focus (intro w' hSw; obtain ⟨hs0, hs1⟩ := hSw; go_simp; try (with_reducible rfl))
            try simp only [Act.put, List.setIfInBounds_toArray, List.set_cons_zero, List.set_cons_succ]
            refine till_take 7 (v := ?_) rfl (by kernel_rfl) (fun _ _ _ h => h) (Or.inl ⟨by rfl, ?_⟩) hS ?_
            rotate_left
            focus (intro w' hSw; obtain ⟨hs0, hs1⟩ := hSw; go_simp; try (with_reducible rfl))
            try simp only [Act.put, List.setIfInBounds_toArray, List.set_cons_zero, List.set_cons_succ]
            refine till_take 8 (v := ?_) rfl (by kernel_rfl) (fun _ _ _ h => h) (Or.inl ⟨by rfl, ?_⟩) hS ?_
            rotate_left
            focus (intro w' hSw; obtain ⟨hs0, hs1⟩ := hSw; go_simp; try (with_reducible rfl))
            try simp only [Act.put, List.setIfInBounds_toArray, List.set_cons_zero, List.set_cons_succ]
            refine till_take 9 (v := ?_) rfl (by kernel_rfl) (fun _ _ _ h => h) (Or.inl ⟨by rfl, ?_⟩) hS ?_
            rotate_left
            focus (intro w' hSw; obtain ⟨hs0, hs1⟩ := hSw; go_simp; try (with_reducible rfl))
            try simp only [Act.put, List.setIfInBounds_toArray, List.set_cons_zero, List.set_cons_succ]
            refine till_take 10 (v := ?_) rfl (by kernel_rfl) (fun _ _ _ h => h) (Or.inl ⟨by rfl, ?_⟩) hS ?_
            rotate_left
            focus (intro w' hSw; obtain ⟨hs0, hs1⟩ := hSw; go_simp; try (with_reducible rfl))
            try simp only [Act.put, List.setIfInBounds_toArray, List.set_cons_zero, List.set_cons_succ]
            refine till_take 11 (v := ?_) rfl (by kernel_rfl) (fun _ _ _ h => h) (Or.inl ⟨by rfl, ?_⟩) hS ?_
            rotate_left
            focus (intro w' hSw; obtain ⟨hs0, hs1⟩ := hSw; go_simp; try (with_reducible rfl))
            try simp only [Act.put, List.setIfInBounds_toArray, List.set_cons_zero, List.set_cons_succ]
            refine till_take 12 (v := ?_) rfl (by kernel_rfl) (fun _ _ _ h => h) (Or.inl ⟨by rfl, ?_⟩) hS ?_
            rotate_left
            focus (intro w' hSw; obtain ⟨hs0, hs1⟩ := hSw; go_simp; try (with_reducible rfl))
            try simp only [Act.put, List.setIfInBounds_toArray, List.set_cons_zero, List.set_cons_succ]
            refine till_take 13 (v := ?_) rfl (by kernel_rfl) (fun _ _ _ h => h) (Or.inl ⟨by rfl, ?_⟩) hS ?_
            rotate_left
            focus (intro w' hSw; obtain ⟨hs0, hs1⟩ := hSw; go_simp; try (with_reducible rfl))
            try simp only [Act.put, List.setIfInBounds_toArray, List.set_cons_zero, List.set_cons_succ]
            refine till_ready [14] (by kernel_rfl) (TillReady.cons 14 rfl (fun K hK => ?_) TillReady.nil)
            go_simp
            refine (Hid.out hK) _ _ (fun h => absurd rfl h) ?_
            refine till_done (by kernel_rfl) ?_
            refine NoPanic.normal ?_
            go_upto_region 38 with fail
            generalize hW9 : World.drew _ = W9
            have hH9 : VarAt W9 (w1.heap.size + 1) 26 [.slice av1 D.length kv1, .slice (some ⟨g, 0, none⟩) S.length kv2, .slice a5 1 c5] := by rw [← hW9]; exact HH9.out
            have h20 : Calls Try.prog 20 #[.agg #[.slice av1 D.length kv1, .slice (some ⟨g, 0, none⟩) S.length kv2, .slice a5 1 c5]] W9 fun e w' => e = .returned (.bool false) ∧ Below w.heap.size w w' := by
              have h0 := C20W.out
              simp only [HistD.agg, HistD.dv, HistD.sv, HistD.nv, List.length_set] at h0
              rw [← hW9]; exact h0
            have H20 := Lib.hid h20
            have e0 := hH9.cell (j := 0) rfl
            have e1 := hH9.cell (j := 1) rfl
            have e2 := hH9.cell (j := 2) rfl
            have el := hH9.lt
            clear hW9 hH9 h20 C20W HH9 c3 c4 c5c f3 f4 f5 yc1 ycl ya0 ya1 ya2 yal yb0 yb1 yb2 ybl y0 y1 y2 yl
            go_wp2_with (first | (go_at_call 20; refine H20.out.mono ?_; rintro e Wd ⟨rfl, hbd⟩; have HBD := Lib.hid hbd; clear hbd) | fail)
            go_tidy
            exact END.out _ HBD.out
theorem runsWalk (v0 v1 v2 : Value) (w : World) (a0 : ArgAt Try.prog 66 v0 w) (a1 : ArgAt Try.prog 67 v1 w) (a2 : ArgAt Try.prog 5 v2 w) : Calls Try.prog 7 #[v0, v1, v2] w fun e w' => e = .returned (.bool true) ∧ Below w.heap.size w w' := by
  obtain ⟨ts, hf, hts⟩ := a0.txns
  obtain ⟨st, hsb, hst⟩ := a1.u8s
  obtain ⟨n, rfl, hn⟩ := a2.int Try.underlying5
  obtain ⟨p, rfl⟩ : ∃ p : Nat, n = (p : Int) := ⟨n.toNat, by simp [Lit.wf, IntKind.min, IntKind.max, IntKind.signed, IntKind.bits] at hn; omega⟩
  obtain ⟨q0, k0, rfl, -⟩ := id hts
  obtain ⟨q1, k1, rfl, -⟩ := id hst
  exact c7 hts hf hst hsb p (by simp [Lit.wf, IntKind.min, IntKind.max, IntKind.signed, IntKind.bits] at hn; omega)
end Go.Proofs.Ytmdfilffoomckaa
