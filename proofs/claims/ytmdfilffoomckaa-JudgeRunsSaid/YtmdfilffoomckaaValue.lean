/- The reference: how ids are compared; a key's value behind the first n. Conditions: each law's own. -/
import Derived.Test.YtmdfilffoomckaaWrote
import Derived.Test.YtmdfilffoomckaaMaps
import Derived.Laws.StructEq
import Derived.Deep.QuietTactic
import Derived.BigQuiet
namespace Go.Proofs.Ytmdfilffoomckaa
open Go.ChangeShapes Go.WideShapes Go.ChangeAt Go.RowKit

theorem c30 (a b : IdD) (w : World) : Calls Try.prog 30 #[.agg #[.int .i64 a.s, .int .i64 a.q], .agg #[.int .i64 b.s, .int .i64 b.q]] w fun e w' => e = .returned (.bool (lessId a b)) ∧ Below w.heap.size w w' := by
  obtain ⟨s, q⟩ := a
  obtain ⟨u, v⟩ := b
  refine gen fun R hR => ?_
  have hb : Below w.heap.size w ((w.alloc (.cells #[.int .i64 s, .int .i64 q] 39)).alloc (.cells #[.int .i64 u, .int .i64 v] 39)) := ((Below.refl _ _).alloc (Nat.le_refl _) _).alloc (by simp) _
  by_cases h : s = u
  · subst h
    have hl : lessId ⟨s, q⟩ ⟨s, v⟩ = decide (q < v) := by unfold lessId; simp
    rw [hl] at hR
    clear hl
    go_enter Try.func30, Try.ntmps30
    go_wp2
    go_tidy
    exact ⟨rfl, hb⟩
  · have hl : lessId ⟨s, q⟩ ⟨u, v⟩ = decide (s < u) := by unfold lessId; simp [h]
    have hn : (s != u) = true := by simpa using h
    rw [hl] at hR
    clear hl h
    go_enter Try.func30, Try.ntmps30
    go_wp2
    go_tidy
    exact ⟨rfl, hb⟩
theorem RowOf.doneAt {w : World} {a : Option Addr} {n cap : Nat} {ds : List DoneD} (h : RowOf encDone 6 w (.slice a n cap) ds) {i : Nat} (hi : i < ds.length) :
    ∃ b o d, a = some ⟨b, o, none⟩ ∧ b < w.heap.size ∧ ds[i]? = some d ∧ w.cell? ⟨b, o + i * 6, none⟩ = some (.int .i64 d.txn.id.s) ∧ w.cell? ⟨b, o + i * 6 + 1, none⟩ = some (.int .i64 d.txn.id.q) ∧ w.cell? ⟨b, o + i * 6 + 2, none⟩ = some d.txn.rv ∧
      w.cell? ⟨b, o + i * 6 + 3, none⟩ = some d.txn.wv ∧ w.cell? ⟨b, o + i * 6 + 4, none⟩ = some (.bool d.yes) ∧ w.cell? ⟨b, o + i * 6 + 5, none⟩ = some (.int .u64 d.stamp) := by
  obtain ⟨a', cap', hv, h1, h2, h3⟩ := h
  cases hv
  obtain ⟨b, o, rfl, hlt, hc⟩ := h3 (by omega)
  have hp : ds[i]? = some ds[i] := List.getElem?_eq_getElem hi
  exact ⟨b, o, ds[i], rfl, hlt, hp, hc i 0 _ _ hp rfl, hc i 1 _ _ hp rfl, hc i 2 _ _ hp rfl, hc i 3 _ _ hp rfl, hc i 4 _ _ hp rfl, hc i 5 _ _ hp rfl⟩
def ValRel (L : List DoneD) (n : Nat) (key : ByteArray) (i : Value) : Prop := ∃ m : Nat, m ≤ n ∧ i = .int .i64 ((m : Int) - 1) ∧ valN key (L.take n) = valN key (L.take m)
def WrsRel (ws : List WrD) (key : ByteArray) (k : Value) : Prop := ∃ q : Nat, q ≤ ws.length ∧ k = .int .i64 ((q : Int) - 1) ∧ ∀ (i : Nat) y, q ≤ i → ws[i]? = some y → y.key ≠ key
set_option maxHeartbeats 2000000 in
set_option maxRecDepth 100000 in
theorem c33 {w : World} {a : Option Addr} {cap : Nat} {L : List DoneD} (n : Nat) (key : ByteArray) (h : RowOf encDone 6 w (.slice a L.length cap) L) (hn : n ≤ L.length) (ht : ∀ d ∈ L, TxnOk w d.txn) :
    Calls Try.prog 33 #[.slice a L.length cap, .int .i64 n, .string key] w fun e w' => e = .returned (valN key (L.take n)).agg ∧ Below w.heap.size w w' := by
  refine gen fun R hR => ?_
  have hln : L.length ≤ maxLen := h.len
  unfold maxLen at hln
  have H := Lib.hid h
  have HT := Lib.hid ht
  clear h ht
  go_enter Try.func33, Try.ntmps33
  go_wp2
  go_loop [7] (fun i => ValRel L n key i) (fun i => (intOf i + 1).toNat)
  case atStart => exact ⟨n, by omega, by simp, rfl⟩
  case round =>
    obtain ⟨m, hm, rfl, hv⟩ := hrel
    cases m with
    | zero =>
      simp only [Int.ofNat_zero, Int.zero_sub]
      rw [List.take_zero] at hv
      go_wp2
      refine bodyPost_ret (v := zeroVal.agg) (by simp [results, Try.results33, go_sem, zeroVal]; rfl) rfl (hR _ _ ⟨by rw [hv]; rfl, (Below.refl _ _).alloc (Nat.le_refl _) _⟩)
    | succ p =>
      rw [show ((p + 1 : Nat) : Int) - 1 = (p : Int) by omega]
      obtain ⟨b, o, ⟨⟨di, rd, ws, ra, rc, wa, wc⟩, dy, dst⟩, rfl, hbl, hd, -, -, -, hc3, -, -⟩ := H.out.doneAt (i := p) (by omega)
      simp only [TxnD.wv] at hc3
      have htx := (HT.out _ (List.mem_of_getElem? hd)).2
      simp only [TxnD.wv] at htx
      have hwl := htx.len
      unfold maxLen at hwl
      have hpl : (p : Int) < (L.length : Int) := by omega
      have HV := Lib.hid hv
      have HD := Lib.hid hd
      have HTX := Lib.hid htx
      clear hv hd htx
      go_wp2
      go_loop [8] (fun k => WrsRel ws key k) (fun k => (intOf k + 1).toNat)
      case atStart => exact ⟨ws.length, by omega, by simp, fun i y hi hy => by have := (List.getElem?_eq_some_iff.1 hy).1; omega⟩
      case round =>
        obtain ⟨q, hq, rfl, hno⟩ := hrel
        cases q with
        | zero =>
          simp only [Int.ofNat_zero, Int.zero_sub]
          have HN := Lib.hid hno
          clear hno
          go_wp2
          go_tidy
          refine ⟨⟨p, by omega, rfl, ?_⟩, by simp [intOf]⟩
          rw [HV.out, valN_skip HD.out (fun k y hk => HN.out k y (by omega) hk)]
        | succ k =>
          rw [show ((k + 1 : Nat) : Int) - 1 = (k : Int) by omega]
          obtain ⟨b2, o2, x, rfl, hbl2, hx, hx0, hx1, hx2, hx3⟩ := HTX.out.wrAt (i := k) (by omega)
          have hkl : (k : Int) < (ws.length : Int) := by omega
          have HX := Lib.hid hx
          have HN := Lib.hid hno
          clear hno hx
          by_cases he : x.key = key
          · subst he
            have hxx : (x.key.toList == x.key.toList) = true := by simp
            go_wp2
            refine bodyPost_ret (v := x.val.agg) (by simp [results, Try.results33, go_sem]) rfl (hR _ _ ⟨?_, ?_⟩)
            rotate_left
            · exact (Below.refl _ _).alloc (Nat.le_refl _) _
            rw [HV.out, valN_take HD.out, wrote_last HX.out rfl (fun i y hi hy => HN.out i y (by omega) hy)]
          · have hxx : (x.key.toList == key.toList) = false := str_ne he
            have HE := Lib.hid he
            clear he
            go_wp2
            go_tidy
            refine ⟨⟨k, by omega, rfl, fun i y hi hy => ?_⟩, by simp [intOf]⟩
            rcases Nat.lt_or_ge k i with h1 | h1
            · exact HN.out i y (by omega) hy
            · obtain rfl : i = k := by omega
              rw [HX.out] at hy; cases hy; exact HE.out
end Go.Proofs.Ytmdfilffoomckaa
