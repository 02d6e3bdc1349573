/- Single. Conditions: each law's own. -/
import Derived.Test.YtmdfilffoomckaaIds
namespace Go.Proofs.Ytmdfilffoomckaa
open Go.ChangeShapes Go.WideShapes Go.ChangeAt Go.RowKit

section
variable {P : Program} {t : TypeId} {K : Type} {enc : K → Array Value}
/-- 'v, ok := m[k]'. -/
theorem run_lookup_ok [DecidableEq K] (L : KeyLaw P t enc) {mt e : TypeId} (hm : P.underlying mt = some (.map t e)) {w : World} {r : Nat} {l : List (K × Value × Nat)} {clock : Nat} (h : MapAt enc w r l clock) (k : K) {z : Value} (hz : ∀ w, (zeroValue e).run P w = .ok z w) :
    (Instr.lookup mt (.map (some r)) (.agg (enc k)) true).run P w = .ok (.tuple #[(valOf l k).getD z, .bool (valOf l k).isSome]) w := by
  unfold Instr.lookup
  have hg : (getObj r).run P w = .ok (.map (ents enc l) clock) w := MapKept.run_getObj_map h
  simp only [Sem.run_bind, run_underlying hm, Result.andThen_ok, hg, Sem.run_pure, L.chk]
  have hf := run_findKey L k l w
  have he : (ents enc l).toList = l.map (ent enc) := by simp [ents]
  rw [he, hf]
  simp only [Result.andThen_ok]
  have hv := findIn_val k l 0
  cases hfi : findIn l k 0 with
  | none => rw [hfi] at hv; simp [hz, ← hv]
  | some x => rw [hfi] at hv; simp [← hv]
end
theorem underlying86 : Try.prog.underlying 86 = some (.map 39 50) := by kernel_rfl
def zeroDone : Value := .agg #[.int .i64 0, .int .i64 0, .slice none 0 0, .slice none 0 0, .bool false, .int .u64 0]
theorem zero50 (w : World) : (zeroValue 50).run Try.prog w = .ok zeroDone w := by kernel_rfl
def SglMap (M : List (IdD × Value × Nat)) (acc : List DoneD) : Prop := ∀ id, (valOf M id = none ∧ ∀ d ∈ acc, d.txn.id ≠ id) ∨ ∃ d ∈ acc, d.txn.id = id ∧ valOf M id = some (.agg (doneA d))
theorem SglMap.push {M : List (IdD × Value × Nat)} {acc : List DoneD} (h : SglMap M acc) (d : DoneD) (c : Nat) : SglMap (setVal (touch M d.txn.id (.agg (doneA d)) c) d.txn.id (.agg (doneA d))) (acc ++ [d]) := fun id => by
  rw [valOf_put]
  by_cases hi : id = d.txn.id
  · right
    rw [if_pos hi]
    exact ⟨d, by simp, hi.symm, rfl⟩
  · rw [if_neg hi]
    rcases h id with ⟨h1, h2⟩ | ⟨y, h1, h2, h3⟩
    · left
      refine ⟨h1, fun y hy => ?_⟩
      rcases List.mem_append.1 hy with hy | hy
      · exact h2 y hy
      · simp at hy; subst hy; exact fun e => hi e.symm
    · exact .inr ⟨y, List.mem_append.2 (.inl h1), h2, h3⟩
theorem Single.two {l : List DoneD} (h : Single l) {a b : DoneD} (ha : a ∈ l) (hb : b ∈ l) : Agree a b := by
  obtain ⟨i, hi, rfl⟩ := List.getElem_of_mem ha
  obtain ⟨j, hj, rfl⟩ := List.getElem_of_mem hb
  rcases Nat.lt_trichotomy i j with h1 | h1 | h1
  · exact List.pairwise_iff_getElem.1 h i j hi hj h1
  · subst h1; exact fun _ => ⟨rfl, rfl⟩
  · exact (List.pairwise_iff_getElem.1 h j i hj hi h1).symm
def SingRel (w : World) (ds : List DoneD) (i : Value) (wr : World) : Prop :=
  ∃ (j : Nat) (M : List (IdD × Value × Nat)) (clock : Nat), j ≤ ds.length ∧ i = .int .i64 j ∧ MapAt encI wr (w.heap.size + 1) M clock ∧ Fresh M clock ∧ SglMap M (ds.take j) ∧ Single (ds.take j) ∧ Below w.heap.size w wr
set_option maxHeartbeats 8000000 in
set_option maxRecDepth 100000 in
theorem c18 {w : World} {h : HistD} (ok : HistOk w h) : Calls Try.prog 18 #[h.agg] w (TellEnd (Single h.done) w) := by
  refine gen (S := TellEnd (Single h.done) w) fun R hR => ?_
  obtain ⟨ds, seen, snaps, da, dc, sa, sc, na, nc⟩ := h
  have hrow := ok.1
  simp only [HistD.agg, HistD.dv, HistD.sv, HistD.nv] at hrow hR ⊢
  have hln : ds.length ≤ maxLen := hrow.len
  unfold maxLen at hln
  clear ok
  have HD := Lib.hid hrow
  clear hrow
  have hmk : ∀ w, (Instr.makeMap 86 none).run Try.prog w = .ok (.map (some w.heap.size)) (w.alloc (.map #[] 0)) := fun _ => rfl
  go_enter Try.func18, Try.ntmps18
  go_wp2
  go_loopw [12] (fun i wr => SingRel w ds i wr) (fun i _ => ds.length - (intOf i).toNat)
  case atStart =>
    refine ⟨0, [], 0, by omega, rfl, ?_, .nil _, fun id => .inl ⟨rfl, by simp⟩, by simp [Single], below2 _ _ _⟩
    have := MapAt.new (enc := encI) (w.alloc (.cells #[.slice da ds.length dc, .slice sa seen.length sc, .slice na snaps.length nc] 26))
    rw [World.size_alloc] at this
    exact this
  case round =>
    obtain ⟨j, M, clock, hj, rfl, hM, hF, hS, hSg, hb⟩ := hrel
    rcases Nat.lt_or_ge j ds.length with hlt | hge
    · obtain ⟨b, o, d, rfl, hbl, hd, hc0, hc1, hc2, hc3, hc4, hc5⟩ := HD.out.doneAt hlt
      rw [← hb.cell (p := ⟨b, o + j * 6, none⟩) hbl] at hc0
      rw [← hb.cell (p := ⟨b, o + j * 6 + 1, none⟩) hbl] at hc1
      rw [← hb.cell (p := ⟨b, o + j * 6 + 2, none⟩) hbl] at hc2
      rw [← hb.cell (p := ⟨b, o + j * 6 + 3, none⟩) hbl] at hc3
      rw [← hb.cell (p := ⟨b, o + j * 6 + 4, none⟩) hbl] at hc4
      rw [← hb.cell (p := ⟨b, o + j * 6 + 5, none⟩) hbl] at hc5
      have hjl : (j : Int) < (ds.length : Int) := by omega
      have hml := hM.lt
      have hbr : b < wr.heap.size := Nat.lt_of_lt_of_le hbl hb.size
      have hsz := hb.size
      have htk : ds.take (j + 1) = ds.take j ++ [d] := by rw [List.take_add_one, hd]; rfl
      have hlk := fun o => run_lookup_ok law39 underlying86 (hM.alloc o) d.txn.id zero50
      obtain ⟨NW, hNW, hmu⟩ : ∃ NW : Obj → Obj → World, (∀ o o', NW o o' = putMap encI ((wr.alloc o).alloc o') (w.heap.size + 1) (setVal (touch M d.txn.id (.agg (doneA d)) clock) d.txn.id (.agg (doneA d))) (clockOf M d.txn.id clock)) ∧
          ∀ o o', (Instr.mapUpdate 86 (.map (some (w.heap.size + 1))) (.agg (encI d.txn.id)) (.agg (doneA d))).run Try.prog ((wr.alloc o).alloc o') = .ok () (NW o o') :=
        ⟨_, fun _ _ => rfl, fun o o' => run_mapUpdate_made law39 underlying86 ((hM.alloc o).alloc o') hF d.txn.id _⟩
      have next : Single (ds.take (j + 1)) → ∀ o o', SingRel w ds (.int .i64 ((j : Int) + 1)) (NW o o') := fun hs o o' => by
        rw [hNW]
        refine ⟨j + 1, _, _, by omega, rfl, putMap_at (by simp; omega) _ _, (hF.touch _ _).setVal _ _, ?_, hs, putMap_below ((hb.alloc hsz _).alloc (by simp; omega) _) (by omega) _ _⟩
        rw [htk]
        exact hS.push d clock
      have NEXT := Lib.hid next
      have HB := Lib.hid hb
      clear next hNW
      rcases hS d.txn.id with ⟨hn, hnone⟩ | ⟨y, hy, hyi, hys⟩
      · rw [hn] at hlk
        have hsg : Single (ds.take (j + 1)) := single_push hSg hd (fun m y hm hy e => absurd e (hnone y (List.mem_of_getElem? (i := m) (by rw [List.getElem?_take, if_pos hm]; exact hy))))
        have HSG := Lib.hid hsg
        obtain ⟨⟨⟨s1, q1⟩, trd, tws, tra, trc, twa, twc⟩, dy, dst⟩ := d
        simp only [TxnD.rv, TxnD.wv, doneA, encI, zeroDone, Option.getD_none, Option.isSome_none] at hc0 hc1 hc2 hc3 hc4 hc5 hlk hmu
        clear hS hSg hM hF hd hn hnone htk hsg hb
        go_wp2
        go_tidy
        exact ⟨NEXT.out HSG.out _ _, by simp [intOf]; omega⟩
      · rw [hys] at hlk
        have hbad : ¬ (y.yes = d.yes ∧ y.stamp = d.stamp) → ¬ Single ds := fun hne hall => hne ((Single.two hall (List.mem_of_mem_take hy) (List.mem_of_getElem? hd)) hyi)
        have hgood : y.yes = d.yes ∧ y.stamp = d.stamp → Single (ds.take (j + 1)) := fun he => single_push hSg hd (fun m z hm hz e => by
          have h1 := (Single.two hSg (List.mem_of_getElem? (i := m) (by rw [List.getElem?_take, if_pos hm]; exact hz)) hy) (e.trans hyi.symm)
          exact ⟨h1.1.trans he.1, h1.2.trans he.2⟩)
        have HGD := Lib.hid hgood
        have HBD := Lib.hid hbad
        obtain ⟨⟨⟨s1, q1⟩, trd, tws, tra, trc, twa, twc⟩, dy, dst⟩ := d
        obtain ⟨⟨⟨s2, q2⟩, trd2, tws2, tra2, trc2, twa2, twc2⟩, dy2, dst2⟩ := y
        simp only [TxnD.rv, TxnD.wv, doneA, encI, Option.getD_some, Option.isSome_some] at hc0 hc1 hc2 hc3 hc4 hc5 hlk hmu
        clear hS hSg hM hF hd hys hy hyi htk hb hgood hbad
        by_cases hst : dst2 = dst
        · subst hst
          cases dy <;> cases dy2
          · have HSG := Lib.hid (HGD.out ⟨rfl, rfl⟩)
            go_wp2
            go_tidy
            exact ⟨NEXT.out HSG.out _ _, by simp [intOf]; omega⟩
          · clear hmu
            go_wp2
            go_tidy
            exact TellEnd.no (HBD.out (by simp)) ((HB.out.alloc hsz _).alloc (by simp; omega) _)
          · clear hmu
            go_wp2
            go_tidy
            exact TellEnd.no (HBD.out (by simp)) ((HB.out.alloc hsz _).alloc (by simp; omega) _)
          · have HSG := Lib.hid (HGD.out ⟨rfl, rfl⟩)
            go_wp2
            go_tidy
            exact ⟨NEXT.out HSG.out _ _, by simp [intOf]; omega⟩
        · have hsf : (dst2 != dst) = true := by simpa using hst
          cases dy <;> cases dy2
          · clear hmu
            go_wp2
            go_tidy
            exact TellEnd.no (HBD.out (fun h => hst h.2)) ((HB.out.alloc hsz _).alloc (by simp; omega) _)
          · clear hmu
            go_wp2
            go_tidy
            exact TellEnd.no (HBD.out (by simp)) ((HB.out.alloc hsz _).alloc (by simp; omega) _)
          · clear hmu
            go_wp2
            go_tidy
            exact TellEnd.no (HBD.out (by simp)) ((HB.out.alloc hsz _).alloc (by simp; omega) _)
          · clear hmu
            go_wp2
            go_tidy
            exact TellEnd.no (HBD.out (fun h => hst h.2)) ((HB.out.alloc hsz _).alloc (by simp; omega) _)
    · obtain rfl : j = ds.length := by omega
      rw [List.take_length] at hSg
      clear hM hF hS
      have HSg := Lib.hid hSg
      have HB := Lib.hid hb
      clear hSg hb
      go_wp2
      go_tidy
      exact TellEnd.yes HSg.out HB.out
end Go.Proofs.Ytmdfilffoomckaa
