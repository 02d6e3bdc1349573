/- What a transaction wrote to a key. Conditions: each law's own. -/
import Derived.Test.YtmdfilffoomckaaRows
import Derived.Test.YtmdfilffoomckaaSpec
namespace Go.Proofs.Ytmdfilffoomckaa
open Go.ChangeShapes Go.WideShapes Go.ChangeAt Go.RowKit

abbrev TxnD.agg (t : TxnD) : Value := .agg #[.int .i64 t.id.s, .int .i64 t.id.q, t.rv, t.wv]
abbrev ValD.agg (v : ValD) : Value := .agg #[.int .i64 v.kind, .int .u64 v.bits, .string v.text]
theorem RowOf.wrAt {w : World} {a : Option Addr} {n cap : Nat} {ws : List WrD} (h : RowOf encWr 4 w (.slice a n cap) ws) {i : Nat} (hi : i < ws.length) :
    ∃ b o x, a = some ⟨b, o, none⟩ ∧ b < w.heap.size ∧ ws[i]? = some x ∧ w.cell? ⟨b, o + i * 4, none⟩ = some (.string x.key) ∧ w.cell? ⟨b, o + i * 4 + 1, none⟩ = some (.int .i64 x.val.kind) ∧
      w.cell? ⟨b, o + i * 4 + 2, none⟩ = some (.int .u64 x.val.bits) ∧ w.cell? ⟨b, o + i * 4 + 3, none⟩ = some (.string x.val.text) := by
  obtain ⟨a', cap', hv, h1, h2, h3⟩ := h
  cases hv
  obtain ⟨b, o, rfl, hlt, hc⟩ := h3 (by omega)
  have hp : ws[i]? = some ws[i] := List.getElem?_eq_getElem hi
  exact ⟨b, o, ws[i], rfl, hlt, hp, hc i 0 _ _ hp rfl, hc i 1 _ _ hp rfl, hc i 2 _ _ hp rfl, hc i 3 _ _ hp rfl⟩
theorem str_eq (a b : ByteArray) : (a.toList == b.toList) = decide (a = b) := by
  rw [ByteArray.toList_eq, ByteArray.toList_eq]
  obtain ⟨⟨a⟩⟩ := a
  obtain ⟨⟨b⟩⟩ := b
  by_cases h : a = b <;> simp [h]
theorem str_ne {a b : ByteArray} (h : ¬ a = b) : (a.toList == b.toList) = false := by rw [str_eq, decide_eq_false h]
def WroteRel (w : World) (ws : List WrD) (key : ByteArray) (v : ValD) (i : Value) (wr : World) : Prop :=
  ∃ j : Nat, j ≤ ws.length ∧ i = .int .i64 j ∧ VarAt wr (w.heap.size + 1) 47 (encVal (wrote (ws.take j) key v)) ∧ VarAt wr (w.heap.size + 2) 47 (encVal zeroVal) ∧ Below w.heap.size w wr
set_option maxHeartbeats 2000000 in
theorem c32 {w : World} (t : TxnD) (key : ByteArray) (v : ValD) (h : TxnOk w t) : Calls Try.prog 32 #[t.agg, .string key, v.agg] w fun e w' => e = .returned (wrote t.writes key v).agg ∧ Below w.heap.size w w' := by
  refine gen fun R hR => ?_
  have hrow := h.2
  have hln : t.writes.length ≤ maxLen := hrow.len
  unfold maxLen at hln
  obtain ⟨ti, rd, ws, ra, rc, wa, wc⟩ := t
  unfold TxnD.agg TxnD.rv TxnD.wv ValD.agg at *
  simp only at hrow hln hR ⊢
  have HROW := Lib.hid hrow
  clear h hrow
  go_enter Try.func32, Try.ntmps32
  go_wp2
  go_loopw [12] (fun i wr => WroteRel w ws key v i wr) (fun i _ => ws.length - (intOf i).toNat)
  case atStart => exact ⟨0, by omega, rfl, by
    have := (VarAt.new (w.alloc (.cells #[.int .i64 ti.s, .int .i64 ti.q, .slice ra rd.length rc, .slice wa ws.length wc] 43)) 47 (encVal v)).alloc (.cells (encVal zeroVal).toArray 47)
    rw [World.size_alloc] at this; exact this, by
    have := VarAt.new ((w.alloc (.cells #[.int .i64 ti.s, .int .i64 ti.q, .slice ra rd.length rc, .slice wa ws.length wc] 43)).alloc (.cells (encVal v).toArray 47)) 47 (encVal zeroVal)
    rw [World.size_alloc, World.size_alloc] at this; exact this, (((Below.refl _ _).alloc (Nat.le_refl _) _).alloc (by simp) _).alloc (by simp; omega) _⟩
  case round =>
    obtain ⟨j, hj, rfl, hv5, hv6, hb⟩ := hrel
    have hlt6 := hv6.lt
    have hlt5 := hv5.lt
    rcases Nat.lt_or_ge j ws.length with hlt | hge
    · obtain ⟨b, o, x, rfl, hbl, hd, hc0, hc1, hc2, hc3⟩ := HROW.out.wrAt hlt
      rw [← hb.cell (p := ⟨b, o + j * 4, none⟩) hbl] at hc0
      rw [← hb.cell (p := ⟨b, o + j * 4 + 1, none⟩) hbl] at hc1
      rw [← hb.cell (p := ⟨b, o + j * 4 + 2, none⟩) hbl] at hc2
      rw [← hb.cell (p := ⟨b, o + j * 4 + 3, none⟩) hbl] at hc3
      have hstep := wrote_take hd key v
      have hjl : (j : Int) < (ws.length : Int) := by omega
      have q0 := hv5.cell (j := 0) (u := .int .i64 (wrote (ws.take j) key v).kind) rfl
      have q1 := hv5.cell (j := 1) (u := .int .u64 (wrote (ws.take j) key v).bits) rfl
      have q2 := hv5.cell (j := 2) (u := .string (wrote (ws.take j) key v).text) rfl
      have f0 := hv5.free 0
      have f1 := hv5.free 1
      have f2 := hv5.free 2
      generalize wrote (ws.take j) key v = u at *
      have H5 := Lib.hid hv5
      have H6 := Lib.hid hv6
      have HB := Lib.hid hb
      have HST := Lib.hid hstep
      clear hv5 hv6 hb hstep hd
      by_cases he : x.key = key
      · subst he
        have hxx : (x.key.toList == x.key.toList) = true := by simp
        go_wp2
        go_tidy
        refine ⟨⟨j + 1, by omega, rfl, ?_, ?_, ?_⟩, by simp [intOf]; omega⟩
        · rw [HST.out]; unfold wr1; rw [if_pos rfl]
          exact (((H5.out.set 0 (.int .i64 x.val.kind)).set 1 (.int .u64 x.val.bits)).set 2 (.string x.val.text)).alloc _
        · exact (((H6.out.other (a := ⟨w.heap.size + 1, 0, none⟩) (by simp) _).other (a := ⟨w.heap.size + 1, 1, none⟩) (by simp) _).other (a := ⟨w.heap.size + 1, 2, none⟩) (by simp) _).alloc _
        · exact (((HB.out.setCell (by simp) _).setCell (by simp) _).setCell (by simp) _).alloc (by simp; omega) _
      · have hxx : (x.key.toList == key.toList) = false := str_ne he
        have HE := Lib.hid he
        clear he
        go_wp2
        go_tidy
        refine ⟨⟨j + 1, by omega, rfl, ?_, H6.out.alloc _, HB.out.alloc (by omega) _⟩, by simp [intOf]; omega⟩
        rw [HST.out]; unfold wr1; rw [if_neg HE.out]
        exact H5.out.alloc _
    · obtain rfl : j = ws.length := by omega
      rw [List.take_length] at hv5
      have q0 := hv5.cell (j := 0) (u := .int .i64 (wrote ws key v).kind) rfl
      have q1 := hv5.cell (j := 1) (u := .int .u64 (wrote ws key v).bits) rfl
      have q2 := hv5.cell (j := 2) (u := .string (wrote ws key v).text) rfl
      have p0 := hv6.cell (j := 0) (u := .int .i64 zeroVal.kind) rfl
      have p1 := hv6.cell (j := 1) (u := .int .u64 zeroVal.bits) rfl
      have p2 := hv6.cell (j := 2) (u := .string zeroVal.text) rfl
      have f0 := hv6.free 0
      have f1 := hv6.free 1
      have f2 := hv6.free 2
      generalize wrote ws key v = u at *
      have HB := Lib.hid hb
      clear hv5 hv6 hb
      go_wp2
      refine bodyPost_ret (v := .agg #[.int .i64 u.kind, .int .u64 u.bits, .string u.text]) (by simp [results, Try.results32, go_sem, q0, q1, q2, p0, p1, p2, hlt6, hlt5]) rfl (hR _ _ ⟨rfl, ?_⟩)
      exact ((HB.out.setCell (by simp; omega) _).setCell (by simp; omega) _).setCell (by simp; omega) _
end Go.Proofs.Ytmdfilffoomckaa
