/- A region that draws its order and ends in a write to what it reads: a condition on the world is asked behind each operation but the last. Conditions: each law's own. -/
import Derived.Test.YtamjdghjaimihaaKit
import Derived.OrdersHeld
import Derived.StillTail
import Derived.Deep.RegionHeld3
namespace Go.Proofs.Ytamjdghjaimihaa
open Go.RowKit

/-- A list's entry, reckoned by its own recursion. -/
def nth {α : Type} : List α → Nat → Option α
  | [], _ => none
  | x :: _, 0 => some x
  | _ :: l, n + 1 => nth l n
theorem nth_eq {α : Type} : ∀ (l : List α) (i : Nat), nth l i = l[i]?
  | [], _ => by simp [nth]
  | x :: _, 0 => by simp [nth]
  | _ :: l, n + 1 => by simp [nth, nth_eq l n]

section
variable {P : Program} {ops : Array Oper} {Q : Exit → Act → World → Prop} {md : Region.Mode} {S : World → Prop} {z : Nat}

/-- Whatever order is picked: S holds behind each operation but number z. -/
def AnyTill (P : Program) (md : Region.Mode) (ops : Array Oper) (Q : Exit → Act → World → Prop) (S : World → Prop) (z : Nat) : Nat → Array Bool → Act → World → Prop
  | 0, l, a, w => Region.ready md ops l = [] ∧ Q .normal a w
  | n + 1, l, a, w => (Region.ready md ops l = [] → Q .normal a w) ∧
    ∀ i ∈ Region.ready md ops l, wpOp P ops Q i (fun a' w' => (i ≠ z → S w') ∧ AnyTill P md ops Q S z n (l.setIfInBounds i true) a' w') a w

theorem AnyTill.any : ∀ (n : Nat) (l : Array Bool) (a : Act) (w : World), AnyTill P md ops Q S z n l a w → wpAny P md ops Q n l a w
  | 0, _, _, _, h => h
  | n + 1, _, _, _, h => ⟨h.1, fun i hi => wpOp_mono (fun a' w' h' => AnyTill.any n _ a' w' h'.2) (h.2 i hi)⟩

theorem AnyTill.first {i : Nat} {o : Oper} {v : Value} (hz : z + 1 = ops.size) (hs : Region.sinkB md ops z = true) (hc : Region.chainB md ops z = true) (hiz : i < z)
    (hi : ops[i]? = some o) (hsel : ∀ (j : Nat) (o : Oper) cs b, ops[j]? = some o → o.op ≠ .select cs b) (hQ : ∀ c a w, Q (.panic c) (a.put o.dst v) w → Q (.panic c) a w) :
    ∀ (n : Nat) (l : Array Bool) (a : Act) (w : World), HeadInv md ops z l → (∀ j p, ops[j]? = some p → j ≠ i → l.getD j true = false → (∀ e ∈ p.after, Region.binds md e = true → e.on ≠ i) → o.apart ops p = true) →
      i ∈ Region.ready md ops l → YieldsIf P ops S o v a → S w → AnyTill P md ops Q S z n (l.setIfInBounds i true) (a.put o.dst v) w → AnyTill P md ops Q S z (n + 1) l a w
  | 0, l, a, w, _, _, hr, hy, hS, H => by
    refine ⟨fun h => absurd hr (by rw [h]; simp), fun j hj => ?_⟩
    by_cases e : j = i
    · subst e; exact hy.wpOp hi hS ⟨fun _ => hS, H⟩
    · exact absurd (ready_mono hj e) (by rw [H.1]; simp)
  | n + 1, l, a, w, inv, hf, hr, hy, hS, H => by
    refine ⟨fun h => absurd hr (by rw [h]; simp), fun j hj => ?_⟩
    by_cases e : j = i
    · subst e; exact hy.wpOp hi hS ⟨fun _ => hS, H⟩
    · obtain ⟨hun, p, hp, hall⟩ := mem_ready.1 hj
      have h0 := (mem_ready.1 hr).1
      have hno : ∀ e ∈ p.after, Region.binds md e = true → e.on ≠ i := by
        intro x hx hb hxi
        have h1 := hall x hx hb
        rw [hxi, getD_both h0] at h1
        cases h1
      have hjs : j < ops.size := (Array.getElem?_eq_some_iff.1 hp).1
      have hjz : j ≠ z := fun ej => tail_waits hs hc (by omega) inv (z - i) i rfl hiz h0 j (by omega) hj
      have h2 := wpOp_putIf hp (hf j p hp e hun hno) (fun cs b => hsel i o cs b hi) (fun cs b => hsel j p cs b hp) hQ hy (H.2 j (ready_mono hj e))
      have hri := ready_mono hr (Ne.symm e)
      refine wpOp_mono (fun a' w' h3 => ?_) h2
      have hS' : S w' := h3.2.1 hjz
      refine ⟨fun _ => hS', AnyTill.first hz hs hc hiz hi hsel hQ n (l.setIfInBounds j true) a' w' (inv.set hj (by omega)) (fun k q hk hki hun' hno' => hf k q hk hki ?_ hno') hri h3.1 hS' ?_⟩
      · by_cases hjk : j = k
        · subst hjk; exact hun
        · rw [getD_set_ne true hjk] at hun'; exact hun'
      · rw [Array.setIfInBounds_comm _ _ e]; exact h3.2.2
end

section
variable {P : Program} {L : List Oper} {Q : Exit → Act → World → Prop} {md : Region.Mode} {S : World → Prop} {z : Nat}

/-- HeadInv, as something to be reckoned. -/
def headB (md : Region.Mode) (ops : Array Oper) (z : Nat) (l : Array Bool) : Bool :=
  l.size == ops.size && (List.range ops.size).all fun j => (!(l.getD j false) || (match ops[j]? with | some o => o.after.toList.all fun e => !Region.binds md e || l.getD e.on false | none => true)) && (decide (j < z) || !(l.getD j true))
theorem headB_spec {ops : Array Oper} {l : Array Bool} (h : headB md ops z l = true) : HeadInv md ops z l := by
  unfold headB at h
  simp only [Bool.and_eq_true, beq_iff_eq, List.all_eq_true, List.mem_range] at h
  obtain ⟨h1, h2⟩ := h
  refine ⟨h1, fun j o hj hl e he hb => ?_, fun t ht ht' => ?_⟩
  · have hjs : j < ops.size := (Array.getElem?_eq_some_iff.1 hj).1
    have h3 := (h2 j hjs).1
    rw [hl, hj] at h3
    simp only [Bool.not_true, Bool.false_or, List.all_eq_true] at h3
    have h4 := h3 e (by simpa using he)
    rw [hb] at h4
    simpa using h4
  · have h3 := (h2 t ht').2
    simp at h3
    rcases h3 with h3 | h3
    · omega
    · simpa [ht'] using h3

/-- Take number i first. -/
theorem till_take (i : Nat) {o : Oper} {v : Value} {n : Nat} {l : Array Bool} {a : Act} {w : World} (hi : nth L i = some o) (hB : (decide (z + 1 = L.toArray.size) && Region.sinkB md L.toArray z && Region.chainB md L.toArray z && decide (i < z) && headB md L.toArray z l && Region.noSelect L.toArray && Region.free md L.toArray l i && (Region.ready md L.toArray l).contains i) = true)
    (hQ : ∀ c a w, Q (.panic c) (a.put o.dst v) w → Q (.panic c) a w) (hy : YieldsIf P L.toArray S o v a) (hS : S w)
    (h : AnyTill P md L.toArray Q S z n (l.setIfInBounds i true) (a.put o.dst v) w) : AnyTill P md L.toArray Q S z (n + 1) l a w := by
  simp only [Bool.and_eq_true, decide_eq_true_eq] at hB
  obtain ⟨⟨⟨⟨⟨⟨⟨b1, b2⟩, b3⟩, b4⟩, b5⟩, b6⟩, b7⟩, b8⟩ := hB
  have hi' : L.toArray[i]? = some o := by rw [List.getElem?_toArray, ← nth_eq]; exact hi
  exact AnyTill.first b1 b2 b3 b4 hi' (Region.noSelect_spec b6) hQ n l a w (headB_spec b5) (Region.free_spec hi' b7) (by simpa using b8) hy hS h

/-- One of those that may come up. -/
def TillReady (P : Program) (md : Region.Mode) (ops : Array Oper) (Q : Exit → Act → World → Prop) (S : World → Prop) (z n : Nat) (l : Array Bool) (a : Act) (w : World) (rs : List Nat) : Prop :=
  ∀ i ∈ rs, wpOp P ops Q i (fun a' w' => (i ≠ z → S w') ∧ AnyTill P md ops Q S z n (l.setIfInBounds i true) a' w') a w
theorem TillReady.nil {n : Nat} {l : Array Bool} {a : Act} {w : World} : TillReady P md L.toArray Q S z n l a w [] := fun _ h => by cases h
theorem TillReady.cons (i : Nat) {rs : List Nat} {o : Oper} {n : Nat} {l : Array Bool} {a : Act} {w : World} (hi : nth L i = some o)
    (h : ∀ K : Act → World → Prop, Hid (∀ a w, (i ≠ z → S w) → AnyTill P md L.toArray Q S z n (l.setIfInBounds i true) a w → K a w) → if Region.wanted o (yielded L.toArray a.tmps) = true then Oper.wp P o a w K Q else K (a.put o.dst undef) w)
    (hs : TillReady P md L.toArray Q S z n l a w rs) : TillReady P md L.toArray Q S z n l a w (i :: rs) := fun j hj => by
  rcases List.mem_cons.1 hj with rfl | hj
  · exact wpOp_step (by rw [List.getElem?_toArray, ← nth_eq]; exact hi) (fun K' hK => h K' (fun a w hS hW => hK a w ⟨hS, hW⟩))
  · exact hs j hj
theorem till_ready (rs : List Nat) {n : Nat} {l : Array Bool} {a : Act} {w : World} (hB : (decide (Region.ready md L.toArray l = rs) && !rs.isEmpty) = true) (h : TillReady P md L.toArray Q S z n l a w rs) : AnyTill P md L.toArray Q S z (n + 1) l a w := by
  simp only [Bool.and_eq_true, decide_eq_true_eq] at hB
  refine ⟨fun h0 => ?_, by rw [hB.1]; exact h⟩
  rw [hB.1] at h0
  rw [h0] at hB
  simp at hB
theorem till_done {n : Nat} {l : Array Bool} {a : Act} {w : World} (hB : decide (Region.ready md L.toArray l = []) = true) (h : Q .normal a w) : AnyTill P md L.toArray Q S z n l a w := by
  have hr := of_decide_eq_true hB
  cases n with
  | zero => exact ⟨hr, h⟩
  | succ n => exact ⟨fun _ => h, by rw [hr]; simp⟩
theorem till_start {id : Nat} {a : Act} {w : World} (S : World → Prop) (z : Nat) (hm : P.follows .mixedOrders = true) (h : AnyTill P .any L.toArray Q S z L.length (Array.replicate L.length false) a w.drew) : (Code.region id L.toArray true).wp P Q a w :=
  wp_region_any hm (by have := AnyTill.any _ _ _ _ h; simpa using this)
end
end Go.Proofs.Ytamjdghjaimihaa
