/- The contract of Send where the bag has room. Conditions: each law's own. -/
import Derived.Test.YtkkambhkfegodaaSendKit
namespace Go.Proofs.Ytkkambhkfegodaa
open Go.ChangeShapes Go.WideShapes Go.ChangeAt Go.RowKit

theorem entry54 {w : World} {r : Nat} {l : List ((Int × Int) × Value × Nat)} {clock : Nat} (h : MapAt encL w r l clock) (f t : Int) {v : Value} (hv : (valOf l (f, t)).getD (.slice none 0 0) = v) :
    (Instr.mapEntry 60 (.map (some r)) (.agg #[.int .i64 f, .int .i64 t])).run Try.prog w = .ok (.tuple #[v, .int .i64 (((bornOf l (f, t)).getD clock : Nat) : Int)]) (putMap encL w r (touch l (f, t) (.slice none 0 0) clock) (clockOf l (f, t) clock)) := by
  have := run_mapEntry_made law54 underlying60 h (f, t) zero56
  rw [hv] at this
  exact this
theorem mkS {x r K : Nat} {f t : Int} {W : World} (h : VarAt W x 62 [.map (some r)]) (k : VarAt W K 54 [.int .i64 f, .int .i64 t]) :
    W.cell? ⟨x, 0, none⟩ = some (.map (some r)) ∧ W.cell? ⟨K, 0, none⟩ = some (.int .i64 f) ∧ W.cell? ⟨K, 1, none⟩ = some (.int .i64 t) := ⟨h.cell (j := 0) rfl, k.cell (j := 0) rfl, k.cell (j := 1) rfl⟩
/-- What holds all along in Send's second statement. -/
def SB (x r K : Nat) (f t : Int) (v : Value) (n base : Nat) (xs : List Value) (w W : World) : Prop :=
  VarAt W x 62 [.map (some r)] ∧ VarAt W K 54 [.int .i64 f, .int .i64 t] ∧ Tail W base v n xs ∧ Frame (fun j => j ≠ r ∧ some j ≠ v.ownBlock) w W
section
variable {x r K : Nat} {f t : Int} {v : Value} {n base : Nat} {xs : List Value} {w W W' : World}
theorem SB.below (h : SB x r K f t v n base xs w W) (hb : Below W.heap.size W W') : SB x r K f t v n base xs w W' :=
  ⟨h.1.keep hb h.1.lt, h.2.1.keep hb h.2.1.lt, h.2.2.1.below hb (Nat.le_refl _), h.2.2.2.trans (.of_below hb)⟩
theorem SB.alloc (h : SB x r K f t v n base xs w W) (o : Obj) : SB x r K f t v n base xs w (W.alloc o) := h.below ((Below.refl _ _).alloc (Nat.le_refl _) o)
theorem SB.drew (h : SB x r K f t v n base xs w W) : SB x r K f t v n base xs w W.drew := h.below (Below.refl _ _).drew
theorem SB.put (h : SB x r K f t v n base xs w W) (hxr : x ≠ r) (hKr : K ≠ r) (hvr : v.ownBlock ≠ some r) (l : List ((Int × Int) × Value × Nat)) (clock : Nat) : SB x r K f t v n base xs w (putMap encL W r l clock) :=
  ⟨h.1.put hxr _ _, h.2.1.put hKr _ _, h.2.2.1.put hvr _ _, h.2.2.2.trans (.put _ _ _ _ (fun _ hj => hj.1))⟩
theorem SB.s (h : SB x r K f t v n base xs w W) : W.cell? ⟨x, 0, none⟩ = some (.map (some r)) ∧ W.cell? ⟨K, 0, none⟩ = some (.int .i64 f) ∧ W.cell? ⟨K, 1, none⟩ = some (.int .i64 t) := mkS h.1 h.2.1
end
theorem cell_put {w : World} {u : Value} {T : TypeId} {r : Nat} (hr : r < w.heap.size) (l : List ((Int × Int) × Value × Nat)) (clock : Nat) : (putMap encL (w.alloc (.cells #[u] T)) r l clock).cell? ⟨w.heap.size, 0, none⟩ = some u :=
  ((VarAt.new w T [u]).put (by omega) l clock).cell (j := 0) rfl
theorem step_sendS {x r K p : Nat} {l : List ((Int × Int) × Value × Nat)} {clock : Nat} {f t : Int} {bs : List Int} {v pv : Value} {n base : Nat} {xs : List Value} {w W : World}
    (hxr : x ≠ r) (hvx : v.ownBlock ≠ some x) (hvr : v.ownBlock ≠ some r) (hvK : v.ownBlock ≠ some K) (hbase : base ≤ w.heap.size) (hn : n < 64) (hF : Fresh l clock) (hlv : ∀ g, v.ownBlock = some g → g < w.heap.size)
    {ops : Array Oper} {o : Oper} {a : Act} {C : Act → World → Prop} {Q : Exit → Act → World → Prop} {E : Prop} (hgd : o.guard = none) (S X : Operand)
    (ho : o.op = .call { callee := .builtin .append, args := #[S, X], argTypes := #[56, 56] }) (hs : a.eval S = v) (hX : a.eval X = .slice (some ⟨p, 0, none⟩) 1 1)
    (hS : SB x r K f t v n base xs w W) (hM : MapAt encL W r (touch l (f, t) (.slice none 0 0) clock) (clockOf l (f, t) clock))
    (hR : RowOf encB 1 W pv bs) (hpv : ∀ g, pv.ownBlock = some g → w.heap.size ≤ g ∧ g < W.heap.size) (hp : W.cell? ⟨p, 0, none⟩ = some pv)
    (h : ∀ a3 c3 w3, SendGot x r K l clock f t bs v n base xs w (.slice a3 (n + 1) c3) w3 → C (a.put o.dst (.slice a3 (n + 1) c3)) w3) : if Region.wanted o (yielded ops a.tmps) = true then Oper.wp Try.prog o a W C Q else E :=
  step_send hxr hvx hvr hvK (Nat.le_trans hbase hS.2.2.2.size) hn hF hlv hgd S X ho hs hX hS.1 hS.2.1 hS.2.2.1 hM hS.2.2.2 hR hpv hp h
set_option maxHeartbeats 4000000 in
set_option maxRecDepth 100000 in
theorem c10 (x r : Nat) (l : List ((Int × Int) × Value × Nat)) (clock : Nat) (f t : Int) (b : Value) (bs : List Int) (va : Option Addr) (n cp base : Nat) (xs : List Value) (w : World)
    (hX : VarAt w x 62 [.map (some r)]) (hM : MapAt encL w r l clock) (hF : Fresh l clock) (hv : (valOf l (f, t)).getD (.slice none 0 0) = .slice va n cp) (hT : Tail w base (.slice va n cp) n xs) (hn : n < 64)
    (hb : RowOf encB 1 w b bs) (hbs : bs.length ≤ 1000) (hxr : x ≠ r) (hvx : (Value.slice va n cp).ownBlock ≠ some x) (hvr : (Value.slice va n cp).ownBlock ≠ some r) (hbase : base ≤ w.heap.size) (hlv : ∀ g, (Value.slice va n cp).ownBlock = some g → g < w.heap.size) :
    Calls Try.prog 10 #[.pointer (some ⟨x, 0, none⟩), .int .i64 f, .int .i64 t, b] w (SendPost x r l clock f t bs (.slice va n cp) n base xs w) := by
  refine gen (S := SendPost x r l clock f t bs (.slice va n cp) n base xs w) fun R hR => ?_
  have lx := hX.lt
  have lr := hM.lt
  have HX := Lib.hid hX
  have HM := Lib.hid hM
  have HF := Lib.hid hF
  have HV := Lib.hid hv
  have HT := Lib.hid hT
  have HB := Lib.hid hb
  have hnn : ¬ (64 ≤ (n : Int)) := by omega
  clear hX hM hF hv hT hb
  go_enter Try.func10, Try.ntmps10
  go_wp2
  generalize hW : (World.alloc _ _) = W1
  have hX1 : VarAt W1 x 62 [.map (some r)] := by rw [← hW]; exact HX.out.alloc _
  have hK1 : VarAt W1 w.heap.size 54 [.int .i64 f, .int .i64 t] := by rw [← hW]; exact VarAt.new w 54 [.int .i64 f, .int .i64 t]
  have hM1 : MapAt encL W1 r l clock := by rw [← hW]; exact HM.out.alloc _
  have c1 := hX1.cell (j := 0) (u := .map (some r)) rfl
  have k1 := hK1.cell (j := 0) (u := .int .i64 f) rfl
  have k2 := hK1.cell (j := 1) (u := .int .i64 t) rfl
  have hlk := look54 (w := W1.drew) hM1 f t
  rw [HV.out] at hlk
  go_region_held3 (fun w' => w'.cell? ⟨x, 0, none⟩ = some (.map (some r)) ∧ w'.cell? ⟨w.heap.size, 0, none⟩ = some (.int .i64 f) ∧ w'.cell? ⟨w.heap.size, 1, none⟩ = some (.int .i64 t))
    (first | go_keep | fail) (fail)
  generalize hW2 : W1.drew = W2
  have hX2 : VarAt W2 x 62 [.map (some r)] := by rw [← hW2]; exact hX1
  have hK2 : VarAt W2 w.heap.size 54 [.int .i64 f, .int .i64 t] := by rw [← hW2]; exact hK1
  have hM2 : MapAt encL W2 r l clock := by rw [← hW2]; exact hM1
  have hF2 : Frame (fun j => j ≠ r ∧ some j ≠ (Value.slice va n cp).ownBlock) w W2 := by
    rw [← hW2, ← hW]; exact .of_below ((Below.refl _ _).alloc (Nat.le_refl _) _).drew
  have hT2 : Tail W2 base (.slice va n cp) n xs := by rw [← hW2, ← hW]; exact (HT.out.alloc _)
  have hB2 : RowOf encB 1 W2 b bs := by rw [← hW2, ← hW]; exact HB.out.keep ((Below.refl _ _).alloc (Nat.le_refl _) _).drew
  have hKr : w.heap.size ≠ r := by omega
  have hvK : (Value.slice va n cp).ownBlock ≠ some w.heap.size := fun e => absurd (hlv _ e) (by omega)
  have hl2 : w.heap.size ≤ W2.heap.size := hF2.size
  have c2 := hX2.cell (j := 0) (u := .map (some r)) rfl
  have k3 := hK2.cell (j := 0) (u := .int .i64 f) rfl
  have k4 := hK2.cell (j := 1) (u := .int .i64 t) rfl
  have KS := Lib.hid (show SB x r w.heap.size f t (.slice va n cp) n base xs w W2 from ⟨hX2, hK2, hT2, hF2⟩)
  have KM := Lib.hid hM2
  have KB := Lib.hid hB2
  have hme0 := entry54 (w := W2.drew) hM2 f t HV.out
  clear hW hW2 hX1 hK1 hM1 c1 k1 k2 hlk hX2 hK2 hM2 hF2 hT2 hB2
  go_wp2_with fail
  go_region_held3 (fun w' => w'.cell? ⟨x, 0, none⟩ = some (.map (some r)) ∧ w'.cell? ⟨w.heap.size, 0, none⟩ = some (.int .i64 f) ∧ w'.cell? ⟨w.heap.size, 1, none⟩ = some (.int .i64 t))
    (first
      | exact mkS hQ.1 hQ.2.1
      | exact mkS (hQ.1.put hxr _ _) (hQ.2.1.put hKr _ _)
      | exact hS1.s
      | exact (hS1.alloc _).s
      | exact (hS1.put hxr hKr hvr _ _).s
      | exact ((hS1.alloc _).put hxr hKr hvr _ _).s
      | exact ((hS1.put hxr hKr hvr _ _).alloc _).s
      | exact KS.out.drew.s
      | exact (KS.out.drew.put hxr hKr hvr _ _).s
      | go_keep
      | fail)
    (first
      | (go_at_call 23
         refine (c23 b bs W2.drew KB.out hbs).mono ?_
         rintro e w' ⟨pv, rfl, hR1, hpv1, hb1⟩
         obtain ⟨ap, cpp, rfl, -⟩ := id hR1
         have hS1 := KS.out.drew.below hb1
         have hM1 : MapAt encL w' r l clock := MapAt.keep (w := W2.drew) KM.out hb1 KM.out.lt
         have hpv2 : ∀ g, (Value.slice ap bs.length cpp).ownBlock = some g → w.heap.size ≤ g ∧ g < (putMap encL (w'.alloc (.cells #[.slice ap bs.length cpp] 22)) r (touch l (f, t) (.slice none 0 0) clock) (clockOf l (f, t) clock)).heap.size := fun g hg => ⟨Nat.le_trans hl2 (hpv1 g hg).1, by rw [putMap_size, World.size_alloc]; exact Nat.lt_succ_of_lt (hpv1 g hg).2⟩
         have hme2 := entry54 (hM1.alloc (.cells #[.slice ap bs.length cpp] 22)) f t HV.out)
      | (refine step_sendS (pv := .slice ap bs.length cpp) (p := w'.heap.size) hxr hvx hvr hvK hbase hn HF.out hlv (by rfl) _ _ (by rfl) (by rfl) (by rfl) ((hS1.alloc _).put hxr hKr hvr _ _) (putMap_at (hM1.alloc _).lt _ _) (RowOf.put (hM1.alloc _) (hR1.keep ((Below.refl _ _).alloc (Nat.le_refl _) _))) hpv2 (cell_put hM1.lt _ _) ?_
         intro a3 c3 w3 hQ
         have hes := hQ.2.2.1)
      | fail)
  have HQ := Lib.hid hQ.2.2.2
  clear hQ hes
  go_wp2
  exact HQ.out
end Go.Proofs.Ytkkambhkfegodaa
