/- A history that came in, and a list of transactions: how they are read. Conditions: each law's own. -/
import Derived.Test.YtmdfilffoomckaaData
import Derived.Test.YtmdfilffoomckaaArgs
import Derived.Test.YtmdfilffoomckaaRows
namespace Go.Proofs.Ytmdfilffoomckaa
open Go.ChangeShapes Go.WideShapes Go.ChangeAt Go.RowKit

theorem cells3 : Try.prog.cellsOf 3 = 1 := by kernel_rfl
theorem cells4 : Try.prog.cellsOf 4 = 1 := by kernel_rfl
theorem cells9 : Try.prog.cellsOf 9 = 1 := by kernel_rfl
theorem cells27 : Try.prog.cellsOf 27 = 1 := by kernel_rfl
theorem cells39 : Try.prog.cellsOf 39 = 2 := by kernel_rfl
theorem cells47 : Try.prog.cellsOf 47 = 3 := by kernel_rfl
theorem cells75 : Try.prog.cellsOf 75 = 2 := by kernel_rfl
theorem cells91 : Try.prog.cellsOf 91 = 4 := by kernel_rfl
theorem cells40 : Try.prog.cellsOf 40 = 1 := by kernel_rfl
theorem cells41 : Try.prog.cellsOf 41 = 1 := by kernel_rfl
theorem cells43 : Try.prog.cellsOf 43 = 4 := by kernel_rfl
theorem cells50 : Try.prog.cellsOf 50 = 6 := by kernel_rfl
theorem cells60 : Try.prog.cellsOf 60 = 6 := by kernel_rfl
theorem cells64 : Try.prog.cellsOf 64 = 5 := by kernel_rfl
theorem cells61 : Try.prog.cellsOf 61 = 1 := by kernel_rfl
theorem cells62 : Try.prog.cellsOf 62 = 1 := by kernel_rfl
theorem cells22 : Try.prog.cellsOf 22 = 1 := by kernel_rfl
theorem cells23 : Try.prog.cellsOf 23 = 1 := by kernel_rfl
theorem cells24 : Try.prog.cellsOf 24 = 1 := by kernel_rfl
theorem cells26 : Try.prog.cellsOf 26 = 3 := by kernel_rfl
theorem cells66 : Try.prog.cellsOf 66 = 1 := by kernel_rfl
theorem und40 : Try.prog.underlying 40 = some (.slice 75) := by kernel_rfl
theorem und41 : Try.prog.underlying 41 = some (.slice 91) := by kernel_rfl
theorem und61 : Try.prog.underlying 61 = some (.slice 9) := by kernel_rfl
theorem und62 : Try.prog.underlying 62 = some (.slice 47) := by kernel_rfl
theorem und22 : Try.prog.underlying 22 = some (.slice 50) := by kernel_rfl
theorem und23 : Try.prog.underlying 23 = some (.slice 60) := by kernel_rfl
theorem und24 : Try.prog.underlying 24 = some (.slice 64) := by kernel_rfl
theorem und66 : Try.prog.underlying 66 = some (.slice 43) := by kernel_rfl
def OInt (cs : List Value) : Prop := ∃ n, (Lit.int .i64 n).wf = true ∧ cs = [.int .i64 n]
def OU64 (cs : List Value) : Prop := ∃ n, (Lit.int .u64 n).wf = true ∧ cs = [.int .u64 n]
def OBool (cs : List Value) : Prop := ∃ b, cs = [.bool b]
def OStr (cs : List Value) : Prop := ∃ s : ByteArray, s.size ≤ maxLen ∧ cs = [.string s]
def TxnFine (w : World) (t : TxnD) : Prop := TxnOk w t ∧ (Lit.int .i64 t.id.s).wf = true ∧ (Lit.int .i64 t.id.q).wf = true ∧ (∀ x ∈ t.writes, x.key.size ≤ maxLen ∧ x.val.text.size ≤ maxLen ∧ (Lit.int .i64 x.val.kind).wf = true ∧ (Lit.int .u64 x.val.bits).wf = true) ∧ ∀ x ∈ t.reads, x.key.size ≤ maxLen
def OId (cs : List Value) : Prop := ∃ x : IdD, ((Lit.int .i64 x.s).wf = true ∧ (Lit.int .i64 x.q).wf = true) ∧ cs = encId x
def OVal (cs : List Value) : Prop := ∃ x : ValD, (x.text.size ≤ maxLen ∧ (Lit.int .i64 x.kind).wf = true ∧ (Lit.int .u64 x.bits).wf = true) ∧ cs = encVal x
def ORd (cs : List Value) : Prop := ∃ x : RdD, x.key.size ≤ maxLen ∧ cs = encRd x
def OWr (cs : List Value) : Prop := ∃ x : WrD, (x.key.size ≤ maxLen ∧ x.val.text.size ≤ maxLen ∧ (Lit.int .i64 x.val.kind).wf = true ∧ (Lit.int .u64 x.val.bits).wf = true) ∧ cs = encWr x
def ORds (w : World) (cs : List Value) : Prop := ∃ (v : Value) (xs : List RdD), (∀ x ∈ xs, x.key.size ≤ maxLen) ∧ cs = [v] ∧ RowOf encRd 2 w v xs
def OWrs (w : World) (cs : List Value) : Prop := ∃ (v : Value) (xs : List WrD), (∀ x ∈ xs, x.key.size ≤ maxLen ∧ x.val.text.size ≤ maxLen ∧ (Lit.int .i64 x.val.kind).wf = true ∧ (Lit.int .u64 x.val.bits).wf = true) ∧ cs = [v] ∧ RowOf encWr 4 w v xs
def OTxn (w : World) (cs : List Value) : Prop := ∃ x : TxnD, TxnFine w x ∧ cs = encTxn x
def ODone (w : World) (cs : List Value) : Prop := ∃ x : DoneD, TxnOk w x.txn ∧ cs = encDone x
def OSeen (cs : List Value) : Prop := ∃ x : SeenD, True ∧ cs = encSeen x
def OStrs (w : World) (cs : List Value) : Prop := ∃ (v : Value) (xs : List ByteArray), (∀ x ∈ xs, True) ∧ cs = [v] ∧ RowOf encStr 1 w v xs
def OVals (w : World) (cs : List Value) : Prop := ∃ (v : Value) (xs : List ValD), (∀ x ∈ xs, x.text.size ≤ maxLen ∧ (Lit.int .i64 x.kind).wf = true ∧ (Lit.int .u64 x.bits).wf = true) ∧ cs = [v] ∧ RowOf encVal 3 w v xs
def OSnap (w : World) (cs : List Value) : Prop := ∃ x : SnapD, SnapOk w x ∧ cs = encSnap x
def ODones (w : World) (cs : List Value) : Prop := ∃ (v : Value) (xs : List DoneD), (∀ x ∈ xs, TxnOk w x.txn) ∧ cs = [v] ∧ RowOf encDone 6 w v xs
def OSeens (w : World) (cs : List Value) : Prop := ∃ (v : Value) (xs : List SeenD), (∀ x ∈ xs, True) ∧ cs = [v] ∧ RowOf encSeen 6 w v xs
def OSnaps (w : World) (cs : List Value) : Prop := ∃ (v : Value) (xs : List SnapD), (∀ x ∈ xs, SnapOk w x) ∧ cs = [v] ∧ RowOf encSnap 5 w v xs
def OTxns (w : World) (cs : List Value) : Prop := ∃ (v : Value) (xs : List TxnD), (∀ x ∈ xs, TxnFine w x) ∧ cs = [v] ∧ RowOf encTxn 4 w v xs
def OHist (w : World) (cs : List Value) : Prop := ∃ h : HistD, HistOk w h ∧ cs = encHist h
section
variable {H : Type} (E : TypeId × Value → H) (w : World)
theorem oInt : Opens E Try.prog w 3 OInt := (opens_int Try.underlying3).mono fun _ ⟨n, h1, h2⟩ => ⟨n, h1, h2⟩
theorem oU64 : Opens E Try.prog w 27 OU64 := (opens_int Try.underlying27).mono fun _ ⟨n, h1, h2⟩ => ⟨n, h1, h2⟩
theorem oBool : Opens E Try.prog w 4 OBool := opens_bool Try.underlying4
theorem oStr : Opens E Try.prog w 9 OStr := opens_string Try.underlying9
def fId (w : World) : Nat → List Value → Prop
  | 0 => OInt
  | 1 => OInt
  | _ => fun _ => True
theorem oId : Opens E Try.prog w 39 (OId) := by
  refine (opens_fields Try.underlying39 (L := [(3, 0), (3, 1)]) (by kernel_rfl) (fId w) ?_).mono ?_
  · intro i t o hf
    match i with
    | 0 => simp at hf; obtain ⟨rfl, rfl⟩ := hf; exact oInt E w
    | 1 => simp at hf; obtain ⟨rfl, rfl⟩ := hf; exact oInt E w
    | n + 2 => simp at hf
  · rintro cs ⟨hl, h⟩
    rw [cells39] at hl
    have g0 : (OInt) ((cs.drop 0).take (Try.prog.cellsOf 3)) := h 0 _ _ rfl
    have g1 : (OInt) ((cs.drop 1).take (Try.prog.cellsOf 3)) := h 1 _ _ rfl
    clear h
    rw [cells3] at g0
    rw [cells3] at g1
    match cs, hl with
    | [c0, c1], _ =>
      simp only [List.drop_zero, List.drop_succ_cons, List.take_succ_cons, List.take_zero] at g0 g1
      obtain ⟨s, hs, e0⟩ := g0
      obtain ⟨q, hq, e1⟩ := g1
      exact ⟨⟨s, q⟩, ⟨hs, hq⟩, by simp at e0 e1; simp [encId, e0, e1]⟩
def fVal (w : World) : Nat → List Value → Prop
  | 0 => OInt
  | 1 => OU64
  | 2 => OStr
  | _ => fun _ => True
theorem oVal : Opens E Try.prog w 47 (OVal) := by
  refine (opens_fields Try.underlying47 (L := [(3, 0), (27, 1), (9, 2)]) (by kernel_rfl) (fVal w) ?_).mono ?_
  · intro i t o hf
    match i with
    | 0 => simp at hf; obtain ⟨rfl, rfl⟩ := hf; exact oInt E w
    | 1 => simp at hf; obtain ⟨rfl, rfl⟩ := hf; exact oU64 E w
    | 2 => simp at hf; obtain ⟨rfl, rfl⟩ := hf; exact oStr E w
    | n + 3 => simp at hf
  · rintro cs ⟨hl, h⟩
    rw [cells47] at hl
    have g0 : (OInt) ((cs.drop 0).take (Try.prog.cellsOf 3)) := h 0 _ _ rfl
    have g1 : (OU64) ((cs.drop 1).take (Try.prog.cellsOf 27)) := h 1 _ _ rfl
    have g2 : (OStr) ((cs.drop 2).take (Try.prog.cellsOf 9)) := h 2 _ _ rfl
    clear h
    rw [cells3] at g0
    rw [cells27] at g1
    rw [cells9] at g2
    match cs, hl with
    | [c0, c1, c2], _ =>
      simp only [List.drop_zero, List.drop_succ_cons, List.take_succ_cons, List.take_zero] at g0 g1 g2
      obtain ⟨k, hk, e0⟩ := g0
      obtain ⟨b, hb, e1⟩ := g1
      obtain ⟨t, ht, e2⟩ := g2
      exact ⟨⟨k, b, t⟩, ⟨ht, hk, hb⟩, by simp at e0 e1 e2; simp [encVal, e0, e1, e2]⟩
def fRd (w : World) : Nat → List Value → Prop
  | 0 => OStr
  | 1 => OU64
  | _ => fun _ => True
theorem oRd : Opens E Try.prog w 75 (ORd) := by
  refine (opens_fields Try.underlying75 (L := [(9, 0), (27, 1)]) (by kernel_rfl) (fRd w) ?_).mono ?_
  · intro i t o hf
    match i with
    | 0 => simp at hf; obtain ⟨rfl, rfl⟩ := hf; exact oStr E w
    | 1 => simp at hf; obtain ⟨rfl, rfl⟩ := hf; exact oU64 E w
    | n + 2 => simp at hf
  · rintro cs ⟨hl, h⟩
    rw [cells75] at hl
    have g0 : (OStr) ((cs.drop 0).take (Try.prog.cellsOf 9)) := h 0 _ _ rfl
    have g1 : (OU64) ((cs.drop 1).take (Try.prog.cellsOf 27)) := h 1 _ _ rfl
    clear h
    rw [cells9] at g0
    rw [cells27] at g1
    match cs, hl with
    | [c0, c1], _ =>
      simp only [List.drop_zero, List.drop_succ_cons, List.take_succ_cons, List.take_zero] at g0 g1
      obtain ⟨k, hk, e0⟩ := g0
      obtain ⟨b, hb, e1⟩ := g1
      exact ⟨⟨k, b⟩, hk, by simp at e0 e1; simp [encRd, e0, e1]⟩
def fWr (w : World) : Nat → List Value → Prop
  | 0 => OStr
  | 1 => OVal
  | _ => fun _ => True
theorem oWr : Opens E Try.prog w 91 (OWr) := by
  refine (opens_fields Try.underlying91 (L := [(9, 0), (47, 1)]) (by kernel_rfl) (fWr w) ?_).mono ?_
  · intro i t o hf
    match i with
    | 0 => simp at hf; obtain ⟨rfl, rfl⟩ := hf; exact oStr E w
    | 1 => simp at hf; obtain ⟨rfl, rfl⟩ := hf; exact oVal E w
    | n + 2 => simp at hf
  · rintro cs ⟨hl, h⟩
    rw [cells91] at hl
    have g0 : (OStr) ((cs.drop 0).take (Try.prog.cellsOf 9)) := h 0 _ _ rfl
    have g1 : (OVal) ((cs.drop 1).take (Try.prog.cellsOf 47)) := h 1 _ _ rfl
    clear h
    rw [cells9] at g0
    rw [cells47] at g1
    match cs, hl with
    | [c0, c1, c2, c3], _ =>
      simp only [List.drop_zero, List.drop_succ_cons, List.take_succ_cons, List.take_zero] at g0 g1
      obtain ⟨k, hk, e0⟩ := g0
      obtain ⟨v, hv, e1⟩ := g1
      exact ⟨⟨k, v⟩, ⟨hk, hv⟩, by simp [encVal] at e0 e1; simp [encWr, e0, e1]⟩
theorem oRds : Opens E Try.prog w 40 (ORds w) := opens_slice und40 cells75 (by decide) (fun _ => rfl) (oRd E w)
theorem oWrs : Opens E Try.prog w 41 (OWrs w) := opens_slice und41 cells91 (by decide) (fun _ => rfl) (oWr E w)
theorem oStrs : Opens E Try.prog w 61 (OStrs w) := opens_slice und61 cells9 (by decide) (fun _ => rfl) ((oStr E w).mono fun _ ⟨s, _, h⟩ => ⟨s, trivial, h⟩)
theorem oVals : Opens E Try.prog w 62 (OVals w) := opens_slice und62 cells47 (by decide) (fun _ => rfl) (oVal E w)
def fTxn (w : World) : Nat → List Value → Prop
  | 0 => OId
  | 1 => ORds w
  | 2 => OWrs w
  | _ => fun _ => True
theorem oTxn : Opens E Try.prog w 43 (OTxn w) := by
  refine (opens_fields Try.underlying43 (L := [(39, 0), (40, 2), (41, 3)]) (by kernel_rfl) (fTxn w) ?_).mono ?_
  · intro i t o hf
    match i with
    | 0 => simp at hf; obtain ⟨rfl, rfl⟩ := hf; exact oId E w
    | 1 => simp at hf; obtain ⟨rfl, rfl⟩ := hf; exact oRds E w
    | 2 => simp at hf; obtain ⟨rfl, rfl⟩ := hf; exact oWrs E w
    | n + 3 => simp at hf
  · rintro cs ⟨hl, h⟩
    rw [cells43] at hl
    have g0 : (OId) ((cs.drop 0).take (Try.prog.cellsOf 39)) := h 0 _ _ rfl
    have g1 : (ORds w) ((cs.drop 2).take (Try.prog.cellsOf 40)) := h 1 _ _ rfl
    have g2 : (OWrs w) ((cs.drop 3).take (Try.prog.cellsOf 41)) := h 2 _ _ rfl
    clear h
    rw [cells39] at g0
    rw [cells40] at g1
    rw [cells41] at g2
    match cs, hl with
    | [c0, c1, c2, c3], _ =>
      simp only [List.drop_zero, List.drop_succ_cons, List.take_succ_cons, List.take_zero] at g0 g1 g2
      obtain ⟨i, hi, e0⟩ := g0
      obtain ⟨rv, rd, hr, e1, hrr⟩ := g1
      obtain ⟨wv, ws, hw, e2, hww⟩ := g2
      exact by
        obtain ⟨ra, rc, rfl, -⟩ := id hrr
        obtain ⟨wa, wc, rfl, -⟩ := id hww
        exact ⟨⟨i, rd, ws, ra, rc, wa, wc⟩, ⟨⟨hrr, hww⟩, hi.1, hi.2, hw, hr⟩, by simp [encId] at e0 e1 e2; simp [encTxn, e0, e1, e2]⟩
def fDone (w : World) : Nat → List Value → Prop
  | 0 => OTxn w
  | 1 => OBool
  | 2 => OU64
  | _ => fun _ => True
theorem oDone : Opens E Try.prog w 50 (ODone w) := by
  refine (opens_fields Try.underlying50 (L := [(43, 0), (4, 4), (27, 5)]) (by kernel_rfl) (fDone w) ?_).mono ?_
  · intro i t o hf
    match i with
    | 0 => simp at hf; obtain ⟨rfl, rfl⟩ := hf; exact oTxn E w
    | 1 => simp at hf; obtain ⟨rfl, rfl⟩ := hf; exact oBool E w
    | 2 => simp at hf; obtain ⟨rfl, rfl⟩ := hf; exact oU64 E w
    | n + 3 => simp at hf
  · rintro cs ⟨hl, h⟩
    rw [cells50] at hl
    have g0 : (OTxn w) ((cs.drop 0).take (Try.prog.cellsOf 43)) := h 0 _ _ rfl
    have g1 : (OBool) ((cs.drop 4).take (Try.prog.cellsOf 4)) := h 1 _ _ rfl
    have g2 : (OU64) ((cs.drop 5).take (Try.prog.cellsOf 27)) := h 2 _ _ rfl
    clear h
    rw [cells43] at g0
    rw [cells4] at g1
    rw [cells27] at g2
    match cs, hl with
    | [c0, c1, c2, c3, c4, c5], _ =>
      simp only [List.drop_zero, List.drop_succ_cons, List.take_succ_cons, List.take_zero] at g0 g1 g2
      obtain ⟨t, ht, e0⟩ := g0
      obtain ⟨y, e1⟩ := g1
      obtain ⟨s, hs, e2⟩ := g2
      exact ⟨⟨t, y, s⟩, ht.1, by simp [encTxn] at e0 e1 e2; simp [encDone, e0, e1, e2]⟩
def fSeen (w : World) : Nat → List Value → Prop
  | 0 => OId
  | 1 => OStr
  | 2 => OVal
  | _ => fun _ => True
theorem oSeen : Opens E Try.prog w 60 (OSeen) := by
  refine (opens_fields Try.underlying60 (L := [(39, 0), (9, 2), (47, 3)]) (by kernel_rfl) (fSeen w) ?_).mono ?_
  · intro i t o hf
    match i with
    | 0 => simp at hf; obtain ⟨rfl, rfl⟩ := hf; exact oId E w
    | 1 => simp at hf; obtain ⟨rfl, rfl⟩ := hf; exact oStr E w
    | 2 => simp at hf; obtain ⟨rfl, rfl⟩ := hf; exact oVal E w
    | n + 3 => simp at hf
  · rintro cs ⟨hl, h⟩
    rw [cells60] at hl
    have g0 : (OId) ((cs.drop 0).take (Try.prog.cellsOf 39)) := h 0 _ _ rfl
    have g1 : (OStr) ((cs.drop 2).take (Try.prog.cellsOf 9)) := h 1 _ _ rfl
    have g2 : (OVal) ((cs.drop 3).take (Try.prog.cellsOf 47)) := h 2 _ _ rfl
    clear h
    rw [cells39] at g0
    rw [cells9] at g1
    rw [cells47] at g2
    match cs, hl with
    | [c0, c1, c2, c3, c4, c5], _ =>
      simp only [List.drop_zero, List.drop_succ_cons, List.take_succ_cons, List.take_zero] at g0 g1 g2
      obtain ⟨i, hi, e0⟩ := g0
      obtain ⟨k, hk, e1⟩ := g1
      obtain ⟨v, hv, e2⟩ := g2
      exact ⟨⟨i, k, v⟩, trivial, by simp [encId, encVal] at e0 e1 e2; simp [encSeen, e0, e1, e2]⟩
def fSnap (w : World) : Nat → List Value → Prop
  | 0 => OInt
  | 1 => OU64
  | 2 => OU64
  | 3 => OStrs w
  | 4 => OVals w
  | _ => fun _ => True
theorem oSnap : Opens E Try.prog w 64 (OSnap w) := by
  refine (opens_fields Try.underlying64 (L := [(3, 0), (27, 1), (27, 2), (61, 3), (62, 4)]) (by kernel_rfl) (fSnap w) ?_).mono ?_
  · intro i t o hf
    match i with
    | 0 => simp at hf; obtain ⟨rfl, rfl⟩ := hf; exact oInt E w
    | 1 => simp at hf; obtain ⟨rfl, rfl⟩ := hf; exact oU64 E w
    | 2 => simp at hf; obtain ⟨rfl, rfl⟩ := hf; exact oU64 E w
    | 3 => simp at hf; obtain ⟨rfl, rfl⟩ := hf; exact oStrs E w
    | 4 => simp at hf; obtain ⟨rfl, rfl⟩ := hf; exact oVals E w
    | n + 5 => simp at hf
  · rintro cs ⟨hl, h⟩
    rw [cells64] at hl
    have g0 : (OInt) ((cs.drop 0).take (Try.prog.cellsOf 3)) := h 0 _ _ rfl
    have g1 : (OU64) ((cs.drop 1).take (Try.prog.cellsOf 27)) := h 1 _ _ rfl
    have g2 : (OU64) ((cs.drop 2).take (Try.prog.cellsOf 27)) := h 2 _ _ rfl
    have g3 : (OStrs w) ((cs.drop 3).take (Try.prog.cellsOf 61)) := h 3 _ _ rfl
    have g4 : (OVals w) ((cs.drop 4).take (Try.prog.cellsOf 62)) := h 4 _ _ rfl
    clear h
    rw [cells3] at g0
    rw [cells27] at g1
    rw [cells27] at g2
    rw [cells61] at g3
    rw [cells62] at g4
    match cs, hl with
    | [c0, c1, c2, c3, c4], _ =>
      simp only [List.drop_zero, List.drop_succ_cons, List.take_succ_cons, List.take_zero] at g0 g1 g2 g3 g4
      obtain ⟨s, hs, e0⟩ := g0
      obtain ⟨st, hst, e1⟩ := g1
      obtain ⟨f, hf, e2⟩ := g2
      obtain ⟨kv, ks, hk, e3, hkk⟩ := g3
      obtain ⟨vv, vs, hv, e4, hvv⟩ := g4
      exact by
        obtain ⟨ka, kc, rfl, -⟩ := id hkk
        obtain ⟨va, vc, rfl, -⟩ := id hvv
        exact ⟨⟨s, st, f, ks, vs, ka, kc, va, vc⟩, ⟨hkk, hvv⟩, by simp at e0 e1 e2 e3 e4; simp [encSnap, e0, e1, e2, e3, e4]⟩
theorem oDones : Opens E Try.prog w 22 (ODones w) := opens_slice und22 cells50 (by decide) (fun _ => rfl) (oDone E w)
theorem oSeens : Opens E Try.prog w 23 (OSeens w) := opens_slice und23 cells60 (by decide) (fun _ => rfl) (oSeen E w)
theorem oSnaps : Opens E Try.prog w 24 (OSnaps w) := opens_slice und24 cells64 (by decide) (fun _ => rfl) (oSnap E w)
theorem oTxns : Opens E Try.prog w 66 (OTxns w) := opens_slice und66 cells43 (by decide) (fun _ => rfl) (oTxn E w)
def fHist (w : World) : Nat → List Value → Prop
  | 0 => ODones w
  | 1 => OSeens w
  | 2 => OSnaps w
  | _ => fun _ => True
theorem oHist : Opens E Try.prog w 26 (OHist w) := by
  refine (opens_fields Try.underlying26 (L := [(22, 0), (23, 1), (24, 2)]) (by kernel_rfl) (fHist w) ?_).mono ?_
  · intro i t o hf
    match i with
    | 0 => simp at hf; obtain ⟨rfl, rfl⟩ := hf; exact oDones E w
    | 1 => simp at hf; obtain ⟨rfl, rfl⟩ := hf; exact oSeens E w
    | 2 => simp at hf; obtain ⟨rfl, rfl⟩ := hf; exact oSnaps E w
    | n + 3 => simp at hf
  · rintro cs ⟨hl, h⟩
    rw [cells26] at hl
    have g0 : (ODones w) ((cs.drop 0).take (Try.prog.cellsOf 22)) := h 0 _ _ rfl
    have g1 : (OSeens w) ((cs.drop 1).take (Try.prog.cellsOf 23)) := h 1 _ _ rfl
    have g2 : (OSnaps w) ((cs.drop 2).take (Try.prog.cellsOf 24)) := h 2 _ _ rfl
    clear h
    rw [cells22] at g0
    rw [cells23] at g1
    rw [cells24] at g2
    match cs, hl with
    | [c0, c1, c2], _ =>
      simp only [List.drop_zero, List.drop_succ_cons, List.take_succ_cons, List.take_zero] at g0 g1 g2
      obtain ⟨dv, ds, hd, e0, hdd⟩ := g0
      obtain ⟨sv, ss, hs, e1, hss⟩ := g1
      obtain ⟨nv, ns, hn, e2, hnn⟩ := g2
      exact by
        obtain ⟨da, dc, rfl, -⟩ := id hdd
        obtain ⟨sa, sc, rfl, -⟩ := id hss
        obtain ⟨na, nc, rfl, -⟩ := id hnn
        exact ⟨⟨ds, ss, ns, da, dc, sa, sc, na, nc⟩, ⟨hdd, hss, hnn, hd, hn⟩, by simp at e0 e1 e2; simp [encHist, e0, e1, e2]⟩
end
theorem ArgAt.hist {v : Value} {w : World} (h : ArgAt Try.prog 26 v w) : ∃ x : HistD, HistOk w x ∧ v = .agg #[x.dv, x.sv, x.nv] := by
  obtain ⟨cs, rfl, _, x, hx, rfl⟩ := h.struct Try.underlying26 (fun _ E => oHist E w)
  exact ⟨x, hx, rfl⟩
theorem ArgAt.txns {v : Value} {w : World} (h : ArgAt Try.prog 66 v w) : ∃ xs : List TxnD, (∀ x ∈ xs, TxnFine w x) ∧ RowOf encTxn 4 w v xs := by
  obtain ⟨v', xs, h1, h2, h3⟩ := h.slice und66 (fun _ E => oTxns E w)
  simp at h2; subst h2
  exact ⟨xs, h1, h3⟩
end Go.Proofs.Ytmdfilffoomckaa
