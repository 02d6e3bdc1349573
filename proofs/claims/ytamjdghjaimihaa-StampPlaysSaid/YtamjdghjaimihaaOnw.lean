/- A region that draws its order, where what an operation comes to may hang on the world it meets (a call that lays blocks), but what is known stays known as the world grows. An operation that comes to one value in all worlds that may come is taken first. Conditions: each law's own. -/
import Derived.Test.YtamjdghjaimihaaFlow
namespace Go.Proofs.Ytamjdghjaimihaa
open Go.RowKit

section
variable {P : Program} {ops : Array Oper} {Q : Exit → Act → World → Prop} {md : Region.Mode} {R : World → World → Prop}
/-- What an act is behind an operation. -/
def Shape (o : Oper) (a a' : Act) : Prop := ∃ u ds, a' = ({ a with defers := ds } : Act).put o.dst u
theorem wpOp_shape {j : Nat} {o : Oper} (hj : ops[j]? = some o) {K : Act → World → Prop} {a : Act} {w : World} (h : wpOp P ops Q j K a w) : wpOp P ops Q j (fun a' w' => K a' w' ∧ Shape o a a') a w := by
  have keep : ∀ u, Shape o a (a.put o.dst u) := fun u => ⟨u, a.defers, rfl⟩
  unfold wpOp at *
  simp only [hj] at *
  by_cases hw : Region.wanted o (yielded ops a.tmps) = true
  · simp only [hw, if_true] at *
    refine h.imp (fun h => ?_) id
    unfold Oper.wp at *
    revert h
    generalize (execOp a.eval o).run P w = r
    intro h
    cases r with
    | ok n w' =>
      cases n <;> simp only [Oper.upon] at h ⊢ <;> first
        | exact ⟨h, _, _, rfl⟩
        | exact h
        | exact Calls.mono h (fun e w'' he => by cases e <;> first | exact ⟨he, _, _, rfl⟩ | exact he)
        | exact Rows.mono h (fun _ _ he => ⟨he, _, _, rfl⟩)
    | halt x w' => cases x <;> simp only [Oper.upon] at h ⊢ <;> exact h
  · simp only [hw, if_false, Bool.false_eq_true] at *
    exact ⟨h, keep _⟩
/-- What an operation comes to in all worlds that may come. -/
def FlowsAt (P : Program) (ops : Array Oper) (R : World → World → Prop) (o : Oper) (v : Value) (a : Act) (w : World) : Prop :=
  (Region.wanted o (yielded ops a.tmps) = true ∧ ∀ w', R w w' → Res P (R w') v ((execOp a.eval o).run P w')) ∨ (Region.wanted o (yielded ops a.tmps) = false ∧ v = undef)
theorem FlowsAt.of_same {o : Oper} {v : Value} {a a' : Act} {w : World} (hy : FlowsAt P ops R o v a w) (he : execOp a'.eval o = execOp a.eval o)
    (hw : Region.wanted o (yielded ops a'.tmps) = Region.wanted o (yielded ops a.tmps)) : FlowsAt P ops R o v a' w := by
  unfold FlowsAt at *
  rw [he, hw]; exact hy
theorem FlowsAt.on {o : Oper} {v : Value} {a : Act} {w w' : World} (ht : ∀ a b c, R a b → R b c → R a c) (hy : FlowsAt P ops R o v a w) (hr : R w w') : FlowsAt P ops R o v a w' :=
  hy.imp (fun h => ⟨h.1, fun w2 h2 => h.2 w2 (ht _ _ _ hr h2)⟩) id
theorem FlowsAt.wpOp {i : Nat} {o : Oper} {v : Value} {a : Act} {w : World} (hi : ops[i]? = some o) (hy : FlowsAt P ops R o v a w) (h0 : R w w) {K : Act → World → Prop} (h : ∀ w', R w w' → K (a.put o.dst v) w') : wpOp P ops Q i K a w := by
  unfold Go.wpOp
  simp only [hi]
  rcases hy with ⟨hw, hv⟩ | ⟨hw, rfl⟩
  · simp only [hw, if_true]
    left
    have h1 := hv w h0
    unfold Oper.wp
    generalize (execOp a.eval o).run P w = r at *
    cases r with
    | ok n w' =>
      cases n with
      | value u => obtain ⟨rfl, h2⟩ := h1; exact h w' h2
      | enter f args =>
        refine Calls.mono h1 ?_
        rintro e w'' ⟨rfl, h2⟩
        exact h w'' h2
      | _ => exact h1.elim
    | halt x w' => exact h1.elim
  · simp only [hw, Bool.false_eq_true, if_false]; exact h w h0
/-- Whatever order is picked, and however the world grows meanwhile. -/
def OnTill (P : Program) (md : Region.Mode) (ops : Array Oper) (Q : Exit → Act → World → Prop) (R : World → World → Prop) : Nat → Array Bool → Act → World → Prop
  | 0, l, a, w => Region.ready md ops l = [] ∧ ∀ w', R w w' → Q .normal a w'
  | n + 1, l, a, w => ∀ w', R w w' → (Region.ready md ops l = [] → Q .normal a w') ∧
    ∀ i ∈ Region.ready md ops l, wpOp P ops Q i (fun a' w'' => R w' w'' ∧ OnTill P md ops Q R n (l.setIfInBounds i true) a' w'') a w'
theorem OnTill.any (h0 : ∀ a, R a a) : ∀ (n : Nat) (l : Array Bool) (a : Act) (w : World), OnTill P md ops Q R n l a w → wpAny P md ops Q n l a w
  | 0, _, _, w, h => ⟨h.1, h.2 w (h0 w)⟩
  | n + 1, _, _, w, h => ⟨(h w (h0 w)).1, fun i hi => wpOp_mono (fun a' w' h' => OnTill.any h0 n _ a' w' h'.2) ((h w (h0 w)).2 i hi)⟩
theorem OnTill.on (ht : ∀ a b c, R a b → R b c → R a c) : ∀ (n : Nat) {l : Array Bool} {a : Act} {w w' : World}, OnTill P md ops Q R n l a w → R w w' → OnTill P md ops Q R n l a w'
  | 0, _, _, _, _, h, hr => ⟨h.1, fun w2 h2 => h.2 w2 (ht _ _ _ hr h2)⟩
  | _ + 1, _, _, _, _, h, hr => fun w2 h2 => h w2 (ht _ _ _ hr h2)
theorem OnTill.first {i : Nat} {o : Oper} {v : Value} (h0 : ∀ a, R a a) (ht : ∀ a b c, R a b → R b c → R a c)
    (hi : ops[i]? = some o) (hsel : ∀ (j : Nat) (o : Oper) cs b, ops[j]? = some o → o.op ≠ .select cs b) (hQ : ∀ c a w, Q (.panic c) (a.put o.dst v) w → Q (.panic c) a w) :
    ∀ (n : Nat) (l : Array Bool) (a : Act) (w : World), (∀ j p, ops[j]? = some p → j ≠ i → l.getD j true = false → (∀ e ∈ p.after, Region.binds md e = true → e.on ≠ i) → o.apart ops p = true) →
      i ∈ Region.ready md ops l → FlowsAt P ops R o v a w → OnTill P md ops Q R n (l.setIfInBounds i true) (a.put o.dst v) w → OnTill P md ops Q R (n + 1) l a w
  | 0, l, a, w, _, hr, hy, H => fun w1 hw1 => by
    refine ⟨fun h => absurd hr (by rw [h]; simp), fun j hj => ?_⟩
    by_cases e : j = i
    · subst e; exact (hy.on ht hw1).wpOp hi (h0 _) fun w2 h2 => ⟨h2, H.on ht 0 (ht _ _ _ hw1 h2)⟩
    · exact absurd (ready_mono hj e) (by rw [H.1]; simp)
  | n + 1, l, a, w, hf, hr, hy, H => fun w1 hw1 => by
    refine ⟨fun h => absurd hr (by rw [h]; simp), fun j hj => ?_⟩
    by_cases e : j = i
    · subst e; exact (hy.on ht hw1).wpOp hi (h0 _) fun w2 h2 => ⟨h2, H.on ht (n + 1) (ht _ _ _ hw1 h2)⟩
    · obtain ⟨hun, p, hp, hall⟩ := mem_ready.1 hj
      have hl0 := (mem_ready.1 hr).1
      have hno : ∀ e ∈ p.after, Region.binds md e = true → e.on ≠ i := by
        intro x hx hb hxi
        have h1 := hall x hx hb
        rw [hxi, getD_both hl0] at h1
        cases h1
      have hap := hf j p hp e hun hno
      obtain ⟨h1, h2, h3⟩ := Oper.apart_spec hap
      have hsj : ∀ cs b, p.op ≠ .select cs b := fun cs b => hsel j p cs b hp
      have hsi : ∀ cs b, o.op ≠ .select cs b := fun cs b => hsel i o cs b hi
      have hy1 := hy.on ht hw1
      have hy0 : YieldsIf P ops (fun _ => False) o v a := hy1.imp (fun h => ⟨h.1, fun _ h => h.elim⟩) id
      have h4 := wpOp_shape hp (wpOp_putIf hp hap hsi hsj hQ hy0 ((H w1 hw1).2 j (ready_mono hj e)))
      have hri := ready_mono hr (Ne.symm e)
      refine wpOp_mono (fun a' w' h5 => ?_) h4
      obtain ⟨⟨-, hR', hK⟩, u, ds, rfl⟩ := h5
      refine ⟨hR', OnTill.first h0 ht hi hsel hQ n (l.setIfInBounds j true) _ w' (fun k q hk hki hun' hno' => hf k q hk hki ?_ hno') hri ?_ ?_⟩
      · by_cases hjk : j = k
        · subst hjk; exact hun
        · rw [getD_set_ne true hjk] at hun'; exact hun'
      · refine (((hy1.on ht hR').of_same (a' := { a with defers := ds }) rfl rfl)).of_same (execOp_put o hsi _ p.dst u h3) (wanted_put o _ p.dst u h3)
      · rw [Array.setIfInBounds_comm _ _ e]; exact hK
end

section
variable {P : Program} {L : List Oper} {Q : Exit → Act → World → Prop} {md : Region.Mode} {R : World → World → Prop}
/-- A way in which worlds grow. -/
def Grows (R : World → World → Prop) : Prop := (∀ a, R a a) ∧ ∀ a b c, R a b → R b c → R a c
/-- Take number i first. -/
theorem on_take (i : Nat) {o : Oper} {v : Value} {n : Nat} {l : Array Bool} {a : Act} {w : World} (hG : Grows R) (hi : nth L i = some o)
    (hB : (Region.noSelect L.toArray && Region.free md L.toArray l i && (Region.ready md L.toArray l).contains i) = true) (hQ : ∀ c a w, Q (.panic c) (a.put o.dst v) w → Q (.panic c) a w)
    (hy : FlowsAt P L.toArray R o v a w) (h : OnTill P md L.toArray Q R n (l.setIfInBounds i true) (a.put o.dst v) w) : OnTill P md L.toArray Q R (n + 1) l a w := by
  simp only [Bool.and_eq_true] at hB
  obtain ⟨⟨b6, b7⟩, b8⟩ := hB
  have hi' : L.toArray[i]? = some o := by rw [List.getElem?_toArray, ← nth_eq]; exact hi
  exact OnTill.first hG.1 hG.2 hi' (Region.noSelect_spec b6) hQ n l a w (Region.free_spec hi' b7) (by simpa using b8) hy h
theorem FlowsAt.read {ops : Array Oper} {o : Oper} {v : Value} {a : Act} {w : World} (h0 : ∀ a, R a a) (hw : Region.wanted o (yielded ops a.tmps) = true) (h : ∀ w', R w w' → (execOp a.eval o).run P w' = .ok (.value v) w') : FlowsAt P ops R o v a w :=
  .inl ⟨hw, fun w' hS => by rw [h w' hS]; exact ⟨rfl, h0 w'⟩⟩
theorem FlowsAt.call {ops : Array Oper} {o : Oper} {v : Value} {a : Act} {f : FuncId} {args : Array Value} {w : World} (hw : Region.wanted o (yielded ops a.tmps) = true) (h : ∀ w, (execOp a.eval o).run P w = .ok (.enter f args) w) (hc : ∀ w', R w w' → Calls P f args w' fun e w'' => e = .returned v ∧ R w' w'') : FlowsAt P ops R o v a w :=
  .inl ⟨hw, fun w' hS => by rw [h w']; exact hc w' hS⟩
theorem FlowsAt.skip {ops : Array Oper} {o : Oper} {a : Act} {w : World} (hw : Region.wanted o (yielded ops a.tmps) = false) : FlowsAt P ops R o undef a w := .inr ⟨hw, rfl⟩
/-- One of those that may come up, in a world that has come. -/
def OnReady (P : Program) (md : Region.Mode) (ops : Array Oper) (Q : Exit → Act → World → Prop) (R : World → World → Prop) (n : Nat) (l : Array Bool) (a : Act) (w : World) (rs : List Nat) : Prop :=
  ∀ i ∈ rs, wpOp P ops Q i (fun a' w' => R w w' ∧ OnTill P md ops Q R n (l.setIfInBounds i true) a' w') a w
theorem OnReady.nil {n : Nat} {l : Array Bool} {a : Act} {w : World} : OnReady P md L.toArray Q R n l a w [] := fun _ h => by cases h
theorem OnReady.cons (i : Nat) {rs : List Nat} {o : Oper} {n : Nat} {l : Array Bool} {a : Act} {w : World} (hi : nth L i = some o)
    (h : ∀ K : Act → World → Prop, Hid (∀ a w', R w w' → OnTill P md L.toArray Q R n (l.setIfInBounds i true) a w' → K a w') → if Region.wanted o (yielded L.toArray a.tmps) = true then Oper.wp P o a w K Q else K (a.put o.dst undef) w)
    (hs : OnReady P md L.toArray Q R n l a w rs) : OnReady P md L.toArray Q R n l a w (i :: rs) := fun j hj => by
  rcases List.mem_cons.1 hj with rfl | hj
  · exact wpOp_step (by rw [List.getElem?_toArray, ← nth_eq]; exact hi) (fun K' hK => h K' (fun a w hS hW => hK a w ⟨hS, hW⟩))
  · exact hs j hj
theorem on_ready (rs : List Nat) {n : Nat} {l : Array Bool} {a : Act} {w : World} (hB : (decide (Region.ready md L.toArray l = rs) && !rs.isEmpty) = true) (h : ∀ w', R w w' → OnReady P md L.toArray Q R n l a w' rs) : OnTill P md L.toArray Q R (n + 1) l a w := fun w' hw' => by
  simp only [Bool.and_eq_true, decide_eq_true_eq] at hB
  refine ⟨fun h0 => ?_, by rw [hB.1]; exact h w' hw'⟩
  rw [hB.1] at h0
  rw [h0] at hB
  simp at hB
theorem on_done {n : Nat} {l : Array Bool} {a : Act} {w : World} (hB : decide (Region.ready md L.toArray l = []) = true) (h : ∀ w', R w w' → Q .normal a w') : OnTill P md L.toArray Q R n l a w := by
  have hr := of_decide_eq_true hB
  cases n with
  | zero => exact ⟨hr, h⟩
  | succ n => exact fun w' hw' => ⟨fun _ => h w' hw', by rw [hr]; simp⟩
theorem on_start {id : Nat} {a : Act} {w : World} (R : World → World → Prop) (hG : Grows R) (hm : P.follows .mixedOrders = true) (h : OnTill P .any L.toArray Q R L.length (Array.replicate L.length false) a w.drew) : (Code.region id L.toArray true).wp P Q a w :=
  wp_region_any hm (by have := OnTill.any hG.1 _ _ _ _ h; simpa using this)
end
end Go.Proofs.Ytamjdghjaimihaa
