/- A region that draws its order: operations, calls among them, that come to the same values in every world of a kind and stay within that kind. One order stands for all. Conditions: each law's own. -/
import Derived.Test.YtamjdghjaimihaaHeld
namespace Go.Proofs.Ytamjdghjaimihaa
open Go.RowKit

section
variable {P : Program} {ops : Array Oper} {Q : Exit → Act → World → Prop} {md : Region.Mode} {S : World → Prop} {z : Nat}
/-- What an operation comes to: the value v, and a world of the kind. -/
def Res (P : Program) (S : World → Prop) (v : Value) : Result Next → Prop
  | .ok (.value u) w' => u = v ∧ S w'
  | .ok (.enter f args) w' => Calls P f args w' fun e w'' => e = .returned v ∧ S w''
  | _ => False
def FlowsIf (P : Program) (ops : Array Oper) (S : World → Prop) (o : Oper) (v : Value) (a : Act) : Prop :=
  (Region.wanted o (yielded ops a.tmps) = true ∧ ∀ w, S w → Res P S v ((execOp a.eval o).run P w)) ∨ (Region.wanted o (yielded ops a.tmps) = false ∧ v = undef)
theorem FlowsIf.of_same {o : Oper} {v : Value} {a a' : Act} (hy : FlowsIf P ops S o v a) (he : execOp a'.eval o = execOp a.eval o)
    (hw : Region.wanted o (yielded ops a'.tmps) = Region.wanted o (yielded ops a.tmps)) : FlowsIf P ops S o v a' := by
  unfold FlowsIf at *
  rw [he, hw]; exact hy
theorem FlowsIf.wpOp {i : Nat} {o : Oper} {v : Value} {a : Act} (hi : ops[i]? = some o) (hy : FlowsIf P ops S o v a) {K : Act → World → Prop} {w : World} (hS : S w) (h : ∀ w', S w' → K (a.put o.dst v) w') : wpOp P ops Q i K a w := by
  unfold Go.wpOp
  simp only [hi]
  rcases hy with ⟨hw, hv⟩ | ⟨hw, rfl⟩
  · simp only [hw, if_true]
    left
    have h1 := hv w hS
    unfold Oper.wp
    generalize (execOp a.eval o).run P w = r at *
    cases r with
    | ok n w' =>
      cases n with
      | value u => obtain ⟨rfl, h2⟩ := h1; exact h w' h2
      | enter f args =>
        refine Calls.mono h1 ?_
        rintro e w'' ⟨rfl, h2⟩
        exact h w'' h2
      | _ => exact h1.elim
    | halt x w' => exact h1.elim
  · simp only [hw, Bool.false_eq_true, if_false]; exact h w hS

def AllTill (P : Program) (md : Region.Mode) (ops : Array Oper) (Q : Exit → Act → World → Prop) (S : World → Prop) (z : Nat) : Nat → Array Bool → Act → Prop
  | 0, l, a => ∀ w, S w → AnyTill P md ops Q S z 0 l a w
  | n + 1, l, a => (Region.ready md ops l = [] → ∀ w, S w → Q .normal a w) ∧
    ∀ i ∈ Region.ready md ops l, (i = z → ∀ w, S w → wpOp P ops Q i (fun a' w' => AnyTill P md ops Q S z n (l.setIfInBounds i true) a' w') a w) ∧
      (i ≠ z → ∃ o v, ops[i]? = some o ∧ FlowsIf P ops S o v a ∧ AllTill P md ops Q S z n (l.setIfInBounds i true) (a.put o.dst v))
theorem AllTill.any : ∀ (n : Nat) (l : Array Bool) (a : Act), AllTill P md ops Q S z n l a → ∀ w, S w → AnyTill P md ops Q S z n l a w
  | 0, _, _, h, w, hS => h w hS
  | n + 1, l, a, h, w, hS => ⟨fun h0 => h.1 h0 w hS, fun i hi => by
    by_cases hz : i = z
    · exact wpOp_mono (fun a' w' h' => ⟨fun hn => absurd hz hn, h'⟩) ((h.2 i hi).1 hz w hS)
    · obtain ⟨o, v, ho, hf, hA⟩ := (h.2 i hi).2 hz
      exact hf.wpOp ho hS fun w' hS' => ⟨fun _ => hS', AllTill.any n _ _ hA w' hS'⟩⟩
theorem AllTill.first {i : Nat} {o : Oper} {v : Value} (hz : z = ops.size ∨ (z + 1 = ops.size ∧ Region.sinkB md ops z = true ∧ Region.chainB md ops z = true ∧ i < z)) (hiz : i ≠ z)
    (hi : ops[i]? = some o) (hsel : ∀ (j : Nat) (o : Oper) cs b, ops[j]? = some o → o.op ≠ .select cs b) :
    ∀ (n : Nat) (l : Array Bool) (a : Act), (z = ops.size ∨ HeadInv md ops z l) → (∀ j p, ops[j]? = some p → j ≠ i → l.getD j true = false → (∀ e ∈ p.after, Region.binds md e = true → e.on ≠ i) → o.apart ops p = true) →
      i ∈ Region.ready md ops l → FlowsIf P ops S o v a → AllTill P md ops Q S z n (l.setIfInBounds i true) (a.put o.dst v) → (∃ w, S w) → AllTill P md ops Q S z (n + 1) l a
  | 0, l, a, _, _, hr, hy, H, hex => by
    obtain ⟨w0, hw0⟩ := hex
    refine ⟨fun h => absurd hr (by rw [h]; simp), fun j hj => ?_⟩
    by_cases e : j = i
    · subst e; exact ⟨fun h => absurd h hiz, fun _ => ⟨o, v, hi, hy, H⟩⟩
    · exact absurd (ready_mono hj e) (by rw [(H w0 hw0).1]; simp)
  | n + 1, l, a, inv, hf, hr, hy, H, hex => by
    refine ⟨fun h => absurd hr (by rw [h]; simp), fun j hj => ?_⟩
    by_cases e : j = i
    · subst e; exact ⟨fun h => absurd h hiz, fun _ => ⟨o, v, hi, hy, H⟩⟩
    · obtain ⟨hun, p, hp, hall⟩ := mem_ready.1 hj
      have h0 := (mem_ready.1 hr).1
      have hno : ∀ e ∈ p.after, Region.binds md e = true → e.on ≠ i := by
        intro x hx hb hxi
        have h1 := hall x hx hb
        rw [hxi, getD_both h0] at h1
        cases h1
      have hjs : j < ops.size := (Array.getElem?_eq_some_iff.1 hp).1
      have hjz : j ≠ z := by
        rcases hz with h1 | ⟨h1, hs, hc, hlt⟩
        · omega
        · rcases inv with h2 | inv
          · omega
          · exact fun ej => tail_waits hs hc (by omega) inv (z - i) i rfl hlt h0 j (by omega) hj
      refine ⟨fun h => absurd h hjz, fun _ => ?_⟩
      obtain ⟨p2, u, hp2, hfl, hA⟩ := (H.2 j (ready_mono hj e)).2 hjz
      rw [hp] at hp2; cases hp2
      obtain ⟨h1, h2, h3⟩ := Oper.apart_spec (hf j p hp e hun hno)
      have hsj : ∀ cs b, p.op ≠ .select cs b := fun cs b => hsel j p cs b hp
      have hsi : ∀ cs b, o.op ≠ .select cs b := fun cs b => hsel i o cs b hi
      refine ⟨p, u, hp, hfl.of_same (execOp_put p hsj a o.dst v h1).symm (wanted_put p a o.dst v h1).symm, ?_⟩
      have hri := ready_mono hr (Ne.symm e)
      refine AllTill.first hz hiz hi hsel n (l.setIfInBounds j true) (a.put p.dst u) ?_ (fun k q hk hki hun' hno' => hf k q hk hki ?_ hno') hri (hy.of_same (execOp_put o hsi a p.dst u h3) (wanted_put o a p.dst u h3)) ?_ hex
      · rcases inv with h2 | inv
        · exact .inl h2
        · rcases hz with h4 | ⟨h4, -⟩
          · exact .inl h4
          · exact .inr (inv.set hj (by omega))
      · by_cases hjk : j = k
        · subst hjk; exact hun
        · rw [getD_set_ne true hjk] at hun'; exact hun'
      · rw [Array.setIfInBounds_comm _ _ e, ← Act.put_comm a v u h2]; exact hA
end

section
variable {P : Program} {L : List Oper} {Q : Exit → Act → World → Prop} {md : Region.Mode} {S : World → Prop} {z : Nat}
/-- Take number i first. -/
theorem all_take (i : Nat) {o : Oper} {v : Value} {n : Nat} {l : Array Bool} {a : Act} (hi : nth L i = some o)
    (hB : ((decide (z = L.toArray.size) || (decide (z + 1 = L.toArray.size) && Region.sinkB md L.toArray z && Region.chainB md L.toArray z && decide (i < z) && headB md L.toArray z l)) && (decide (i ≠ z) && Region.noSelect L.toArray && Region.free md L.toArray l i && (Region.ready md L.toArray l).contains i)) = true)
    (hy : FlowsIf P L.toArray S o v a) (hex : ∃ w, S w) (h : AllTill P md L.toArray Q S z n (l.setIfInBounds i true) (a.put o.dst v)) : AllTill P md L.toArray Q S z (n + 1) l a := by
  simp only [Bool.and_eq_true, Bool.or_eq_true, decide_eq_true_eq] at hB
  obtain ⟨hz, ⟨⟨b0, b6⟩, b7⟩, b8⟩ := hB
  have hi' : L.toArray[i]? = some o := by rw [List.getElem?_toArray, ← nth_eq]; exact hi
  refine AllTill.first (hz.imp id fun ⟨⟨⟨⟨h1, h2⟩, h3⟩, h4⟩, _⟩ => ⟨h1, h2, h3, h4⟩) b0 hi' (Region.noSelect_spec b6) n l a (hz.imp id fun h => headB_spec h.2) (Region.free_spec hi' b7) (by simpa using b8) hy h hex
theorem FlowsIf.read {ops : Array Oper} {o : Oper} {v : Value} {a : Act} (hw : Region.wanted o (yielded ops a.tmps) = true) (h : ∀ w, S w → (execOp a.eval o).run P w = .ok (.value v) w) : FlowsIf P ops S o v a :=
  .inl ⟨hw, fun w hS => by rw [h w hS]; exact ⟨rfl, hS⟩⟩
theorem FlowsIf.call {ops : Array Oper} {o : Oper} {v : Value} {a : Act} {f : FuncId} {args : Array Value} (hw : Region.wanted o (yielded ops a.tmps) = true) (h : ∀ w, (execOp a.eval o).run P w = .ok (.enter f args) w) (hc : ∀ w, S w → Calls P f args w fun e w' => e = .returned v ∧ S w') : FlowsIf P ops S o v a :=
  .inl ⟨hw, fun w hS => by rw [h w]; exact hc w hS⟩
theorem FlowsIf.skip {ops : Array Oper} {o : Oper} {a : Act} (hw : Region.wanted o (yielded ops a.tmps) = false) : FlowsIf P ops S o undef a := .inr ⟨hw, rfl⟩
theorem all_stop {n : Nat} {l : Array Bool} {a : Act} (hB : (decide (Region.ready md L.toArray l = []) || decide (Region.ready md L.toArray l = [z])) = true) (h : ∀ w, S w → AnyTill P md L.toArray Q S z n l a w) : AllTill P md L.toArray Q S z n l a := by
  simp only [Bool.or_eq_true, decide_eq_true_eq] at hB
  cases n with
  | zero => exact h
  | succ n =>
    refine ⟨fun h0 w hS => (h w hS).1 h0, fun i hi => ?_⟩
    have hiz : i = z := by
      rcases hB with h1 | h1
      · rw [h1] at hi; cases hi
      · rw [h1] at hi; simpa using hi
    exact ⟨fun _ w hS => wpOp_mono (fun a' w' h' => h'.2) ((h w hS).2 i hi), fun hn => absurd hiz hn⟩
theorem all_start {id : Nat} {a : Act} {w : World} (S : World → Prop) (z : Nat) (hm : P.follows .mixedOrders = true) (hS : S w.drew) (h : AllTill P .any L.toArray Q S z L.length (Array.replicate L.length false) a) : (Code.region id L.toArray true).wp P Q a w :=
  till_start S z hm (AllTill.any _ _ _ h _ hS)
end
end Go.Proofs.Ytamjdghjaimihaa
