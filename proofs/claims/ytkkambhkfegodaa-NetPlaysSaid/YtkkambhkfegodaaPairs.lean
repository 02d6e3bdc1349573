/- Each act on the network and on its reference. Conditions: each law's own. -/
import Derived.Test.YtkkambhkfegodaaBoth
namespace Go.Proofs.Ytkkambhkfegodaa
open Go.ChangeShapes Go.WideShapes Go.ChangeAt Go.RowKit

def NetOut (w0 : World) (x : Nat) (s : NS) (y : Nat) (lv : Value) (B2 : Key → List (List Int)) (N : Nat) (v : Value) (w : World) (e : Ending) (w' : World) : Prop :=
  e = .returned v ∧ ∃ s2, NetAt w' x s2 B2 (ZB w0 y lv) (N + 1) ∧ Step w s w' s2
def RefOut (w0 : World) (y : Nat) (lv : Value) (L2 : List Pkt) (v : Value) (w : World) (e : Ending) (w' : World) : Prop :=
  e = .returned v ∧ ∃ lv2, RefAt w0 w' y lv2 L2 ∧ RefStep w y lv w' lv2
section
variable {w0 w : World} {x y : Nat} {s : NS} {lv : Value} {B : Key → List (List Int)} {L : List Pkt} {N : Nat}
theorem NetOut.still {w' : World} {v : Value} {e : Ending} (h : Both w0 w x s y lv B L N) (he : e = .returned v) (hb : Below w.heap.size w w') : NetOut w0 x s y lv B N v w e w' :=
  ⟨he, s, (h.net.below hb).mono (Nat.le_succ _), Step.of_below hb s⟩
theorem RefOut.still {w' : World} {v : Value} {e : Ending} (h : RefAt w0 w y lv L) (he : e = .returned v) (hb : Below w.heap.size w w') : RefOut w0 y lv L v w e w' :=
  ⟨he, lv, h.below hb, RefStep.of_below hb y lv⟩
/-- The two halves of an act, what they answer alike, and what is then. -/
def Pair (w0 : World) (x : Nat) (s : NS) (y : Nat) (lv : Value) (B : Key → List (List Int)) (L : List Pkt) (N : Nat) (w : World) (fn : FuncId) (an : Array Value) (fr : FuncId) (ar : Array Value) (v : Value) : Prop :=
  ∃ B2 L2, Calls Try.prog fn an w (NetOut w0 x s y lv B2 N v w) ∧ (∀ w2, RefAt w0 w2 y lv L → Calls Try.prog fr ar w2 (RefOut w0 y lv L2 v w2)) ∧ (∀ k, B2 k = bagOf k L2) ∧ L2.length ≤ L.length + 1
theorem pair_send (h : Both w0 w x s y lv B L N) (hL : L.length ≤ 500) (f t : Int) (a : Option Addr) (n c : Nat) (bs : List Int) (hb : RowOf encB 1 w0 (.slice a n c) bs) (hbs : bs.length ≤ 1000) :
    ∃ b : Bool, Pair w0 x s y lv B L N w 10 #[.pointer (some ⟨x, 0, none⟩), .int .i64 f, .int .i64 t, .slice a n c] 31 #[.pointer (some ⟨y, 0, none⟩), .int .i64 f, .int .i64 t, .slice a n c] (.bool b) := by
  have hlen : (B (f, t)).length = cnt (f, t) L := by rw [h.same, bagOf_len]
  rcases Nat.lt_or_ge (cnt (f, t) L) 64 with hlt | hge
  · refine ⟨true, _, L ++ [((f, t), .slice a n c, bs)], (c10net h.net h.zlt f t _ bs (hb.keep h.ref.old) hbs (by rw [hlen]; exact hlt)), fun w2 hr => ?_, same_push (p := ((f, t), .slice a n c, bs)) h.same, by simp⟩
    exact c31 hr (by omega) f t a n c bs hb hbs hlt
  · refine ⟨false, B, L, ?_, fun w2 hr => ?_, h.same, Nat.le_succ _⟩
    · refine (c10full h.net f t a n c (by rw [hlen]; exact hge)).mono ?_
      rintro e w' ⟨rfl, q, os, rfl⟩
      exact NetOut.still h rfl Below.of_grow
    · refine (c31full hr (by omega) f t _ hge).mono ?_
      rintro e w' ⟨rfl, hb2⟩
      exact RefOut.still hr rfl hb2
theorem pair_double (h : Both w0 w x s y lv B L N) (hL : L.length ≤ 500) (f t a : Int) (ha : (Lit.int .i64 a).wf = true) :
    ∃ b : Bool, Pair w0 x s y lv B L N w 13 #[.pointer (some ⟨x, 0, none⟩), .int .i64 f, .int .i64 t, .int .i64 a] 34 #[.pointer (some ⟨y, 0, none⟩), .int .i64 f, .int .i64 t, .int .i64 a] (.bool b) := by
  have hlen : (B (f, t)).length = cnt (f, t) L := by rw [h.same, bagOf_len]
  by_cases hn : 0 ≤ a ∧ a < (cnt (f, t) L : Int)
  · obtain ⟨i, rfl⟩ : ∃ i : Nat, a = (i : Int) := ⟨a.toNat, by omega⟩
    have hi : i < cnt (f, t) L := by omega
    rcases Nat.lt_or_ge (cnt (f, t) L) 64 with hlt | hge
    · obtain ⟨b, hb⟩ : ∃ b, (B (f, t))[i]? = some b := ⟨(B (f, t))[i]'(by omega), List.getElem?_eq_getElem _⟩
      -- the packet that both find
      obtain ⟨p, hp⟩ : ∃ p, (onLink (f, t) L)[i]? = some p := ⟨(onLink (f, t) L)[i]'(by unfold cnt at hi; exact hi), List.getElem?_eq_getElem _⟩
      have hpm := mem_onLink (List.mem_of_getElem? hp)
      have hpb : p.2.2 = b := by
        have : (bagOf (f, t) L)[i]? = some p.2.2 := by unfold bagOf; rw [List.getElem?_map, hp]; rfl
        rw [← h.same, hb] at this; injection this with this; exact this.symm
      refine ⟨true, setB B (f, t) (B (f, t) ++ [b]), L ++ [p], ?_, fun w2 hr => ?_, ?_, by simp⟩
      · refine (c13room h.net h.zlt f t i (by omega) (by omega) (fun q hq => ?_)).mono ?_
        · rw [h.same] at hq
          unfold bagOf at hq
          obtain ⟨z, hz, rfl⟩ := List.mem_map.1 hq
          exact (h.ref.pk z (mem_onLink hz).1).2
        · rintro e w' ⟨rfl, b', s2, hb', hN, hS⟩
          rw [hb] at hb'; injection hb' with hb'; subst hb'
          exact ⟨rfl, s2, hN, hS⟩
      · refine (c34 hr (by omega) f t i ha hn).mono ?_
        rintro e w' ⟨i2, p2, hi2, hk2, hc2, ⟨h64, _⟩ | ⟨_, rfl, lv2, hR, hS⟩⟩
        · omega
        · have := onLink_nth hi2 hk2
          rw [show cnt (f, t) (L.take i2) = i by omega, hp] at this
          injection this with this
          subst this
          exact ⟨rfl, lv2, hR, hS⟩
      · have := same_push (p := p) h.same
        rw [hpm.2, hpb] at this
        exact this
    · refine ⟨false, B, L, ?_, fun w2 hr => ?_, h.same, Nat.le_succ _⟩
      · refine (c13full h.net f t i (by omega) (by omega)).mono ?_
        rintro e w' ⟨rfl, hb⟩
        exact NetOut.still h rfl hb
      · refine (c34 hr (by omega) f t i ha hn).mono ?_
        rintro e w' ⟨i2, p2, hi2, hk2, hc2, ⟨_, rfl, hb⟩ | ⟨h64, _⟩⟩
        · exact RefOut.still hr rfl hb
        · omega
  · refine ⟨false, B, L, ?_, fun w2 hr => ?_, h.same, Nat.le_succ _⟩
    · refine (c13none h.net f t a (by rw [hlen]; exact hn)).mono ?_
      rintro e w' ⟨rfl, hb⟩
      exact NetOut.still h rfl hb
    · refine (c34none hr (by omega) f t a ha hn).mono ?_
      rintro e w' ⟨rfl, rfl⟩
      exact RefOut.still hr rfl (Below.refl _ _)
theorem pair_move (h : Both w0 w x s y lv B L N) (hL : L.length ≤ 500) (f t a d : Int) (ha : (Lit.int .i64 a).wf = true) (hd : (Lit.int .i64 d).wf = true) :
    ∃ b : Bool, Pair w0 x s y lv B L N w 14 #[.pointer (some ⟨x, 0, none⟩), .int .i64 f, .int .i64 t, .int .i64 a, .int .i64 d] 35 #[.pointer (some ⟨y, 0, none⟩), .int .i64 f, .int .i64 t, .int .i64 a, .int .i64 d] (.bool b) := by
  have hlen : (B (f, t)).length = cnt (f, t) L := by rw [h.same, bagOf_len]
  by_cases hn : (0 ≤ a ∧ a < (cnt (f, t) L : Int)) ∧ (0 ≤ d ∧ d < (cnt (f, t) L : Int))
  · obtain ⟨hn1, hn2⟩ := hn
    obtain ⟨i, rfl⟩ : ∃ i : Nat, a = (i : Int) := ⟨a.toNat, by omega⟩
    obtain ⟨j, rfl⟩ : ∃ j : Nat, d = (j : Int) := ⟨d.toNat, by omega⟩
    have hi : i < (onLink (f, t) L).length := by have : (onLink (f, t) L).length = cnt (f, t) L := rfl; omega
    obtain ⟨p, hp⟩ : ∃ p, (onLink (f, t) L)[i]? = some p := ⟨(onLink (f, t) L)[i], List.getElem?_eq_getElem _⟩
    have hpm := mem_onLink (List.mem_of_getElem? hp)
    -- where p lies in L: some place with i of its link ahead
    have hex : ∀ (M : List Pkt) (i : Nat), (onLink (f, t) M)[i]? = some p → ∃ m, M[m]? = some p ∧ cnt (f, t) (M.take m) = i := by
      intro M
      induction M with
      | nil => intro i hq; simp [onLink] at hq
      | cons q M ih =>
        intro i hq
        rw [onLink_cons] at hq
        split at hq
        · rename_i hk
          cases i with
          | zero => exact ⟨0, by simpa using hq, rfl⟩
          | succ i =>
            obtain ⟨m, h1, h2⟩ := ih i (by simpa using hq)
            refine ⟨m + 1, by simpa using h1, ?_⟩
            unfold cnt at *
            rw [List.take_succ_cons, onLink_cons, if_pos hk, List.length_cons, h2]
        · rename_i hk
          obtain ⟨m, h1, h2⟩ := ih i hq
          refine ⟨m + 1, by simpa using h1, ?_⟩
          unfold cnt at *
          rw [List.take_succ_cons, onLink_cons, if_neg hk, h2]
    obtain ⟨m, hm, hmc⟩ := hex L i hp
    have hml : m < L.length := (List.getElem?_eq_some_iff.1 hm).1
    refine ⟨true, setB B (f, t) (((B (f, t)).eraseIdx i).insertIdx j p.2.2), kept f t true (L.eraseIdx m) ++ (onLink (f, t) (L.eraseIdx m)).insertIdx j p, ?_, fun w2 hr => ?_, ?_, ?_⟩
    · refine (c14 h.net h.zlt f t i j (by omega) (by omega)).mono ?_
      rintro e w' ⟨rfl, b, s2, hb, hN, hS⟩
      have : (bagOf (f, t) L)[i]? = some p.2.2 := by unfold bagOf; rw [List.getElem?_map, hp]; rfl
      rw [← h.same, hb] at this
      injection this with this
      subst this
      exact ⟨rfl, s2, hN.mono (Nat.le_succ _), hS⟩
    · refine (c35 hr (by omega) f t i j ha hn1 (by omega)).mono ?_
      rintro e w' ⟨i2, p2, lv2, hi2, hk2, hc2, rfl, hR, hS⟩
      have h5 := onLink_nth hi2 hk2
      rw [show cnt (f, t) (L.take i2) = i by omega, hp] at h5
      injection h5 with h5
      subst h5
      have hmi : L.eraseIdx i2 = L.eraseIdx m := by
        have : i2 = m := by
          have mono : ∀ u v : Nat, u < v → L[u]? = some p → v ≤ L.length → cnt (f, t) (L.take u) < cnt (f, t) (L.take v) := fun u v huv hu hv => by
            have h6 : cnt (f, t) (L.take (u + 1)) ≤ cnt (f, t) (L.take v) := by
              have : (L.take (u + 1)).Sublist (L.take v) := by
                rw [show L.take (u + 1) = (L.take v).take (u + 1) by rw [List.take_take]; congr 1; omega]
                exact List.take_sublist _ _
              exact (this.filter _).length_le
            rw [← take_push hu, cnt_push, if_pos hpm.2] at h6
            omega
          have hi2l : i2 < L.length := (List.getElem?_eq_some_iff.1 hi2).1
          rcases Nat.lt_trichotomy i2 m with h6 | h6 | h6
          · have := mono i2 m h6 hi2 (by omega); omega
          · exact h6
          · have := mono m i2 h6 hm (by omega); omega
        rw [this]
      rw [hmi] at hR
      exact ⟨rfl, lv2, hR, hS⟩
    · have := same_move (d := j) h.same hm hpm.2
      rw [hmc] at this
      exact this
    · rw [List.length_append]
      have h1 : (kept f t true (L.eraseIdx m)).length + (onLink (f, t) (L.eraseIdx m)).length = (L.eraseIdx m).length := by
        generalize L.eraseIdx m = M
        induction M with
        | nil => rfl
        | cons q M ih =>
          unfold kept onLink at *
          rw [List.filter_cons, List.filter_cons, kp_true]
          by_cases hq : q.1 = (f, t)
          · simp [hq]; omega
          · simp [hq]; omega
      have h2 : ((onLink (f, t) (L.eraseIdx m)).insertIdx j p).length ≤ (onLink (f, t) (L.eraseIdx m)).length + 1 := by
        rw [List.length_insertIdx]; split <;> omega
      have h3 : (L.eraseIdx m).length ≤ L.length := by rw [List.length_eraseIdx]; split <;> omega
      omega
  · refine ⟨false, B, L, ?_, fun w2 hr => ?_, h.same, Nat.le_succ _⟩
    · refine (c14none h.net f t a d (by rw [hlen]; exact hn)).mono ?_
      rintro e w' ⟨rfl, hb⟩
      exact NetOut.still h rfl hb
    · refine (c35none hr (by omega) f t a d ha hd hn).mono ?_
      rintro e w' ⟨rfl, rfl⟩
      exact RefOut.still hr rfl (Below.refl _ _)
end
end Go.Proofs.Ytkkambhkfegodaa
