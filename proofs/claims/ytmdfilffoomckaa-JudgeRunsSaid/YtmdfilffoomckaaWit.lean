/- The witness and a key's values: plain laws, no program in sight. Conditions: each law's own. -/
import Derived.Test.YtmdfilffoomckaaData
namespace Go.Proofs.Ytmdfilffoomckaa

def LtI (a b : IdD) : Prop := a.s < b.s ∨ (a.s = b.s ∧ a.q < b.q)
def LtD (a b : DoneD) : Prop := a.stamp < b.stamp ∨ (a.stamp = b.stamp ∧ LtI a.txn.id b.txn.id)
theorem lessId_iff (a b : IdD) : lessId a b = true ↔ LtI a b := by unfold lessId LtI; simp
theorem lessD_iff (a b : DoneD) : lessD a b = true ↔ LtD a b := by unfold lessD LtD; simp [lessId_iff]
theorem LtD.irrefl (a : DoneD) : ¬ LtD a a := by unfold LtD LtI; omega
theorem LtD.asymm {a b : DoneD} (h : LtD a b) (h2 : LtD b a) : False := by unfold LtD LtI at *; omega
theorem LtD.trans {a b c : DoneD} (h : LtD a b) (h2 : LtD b c) : LtD a c := by unfold LtD LtI at *; omega
theorem IdD.ext2 {a b : IdD} (h1 : a.s = b.s) (h2 : a.q = b.q) : a = b := by cases a; cases b; simp at *; exact ⟨h1, h2⟩
theorem LtD.total {a b : DoneD} (h : a.txn.id ≠ b.txn.id) (h2 : ¬ LtD b a) : LtD a b := by
  have : ¬ (a.txn.id.s = b.txn.id.s ∧ a.txn.id.q = b.txn.id.q) := fun e => h (IdD.ext2 e.1 e.2)
  unfold LtD LtI at *
  omega
def cmpD (a b : DoneD) : Int := if lessD a b then -1 else 1
/-! The committed ones, each id once. -/
def addF (acc : List DoneD) (d : DoneD) : List DoneD := if d.yes && !(acc.any fun x => decide (x.txn.id = d.txn.id)) then acc ++ [d] else acc
def first (ds : List DoneD) : List DoneD := ds.foldl addF []
theorem first_push (ds : List DoneD) (d : DoneD) : first (ds ++ [d]) = addF (first ds) d := by unfold first; rw [List.foldl_append]; rfl
theorem first_induct {P : List DoneD → List DoneD → Prop} (h0 : P [] []) (h : ∀ ds acc d, P ds acc → P (ds ++ [d]) (addF acc d)) (ds : List DoneD) : P ds (first ds) := by
  have : ∀ l pre, P pre (first pre) → P (pre ++ l) (first (pre ++ l)) := by
    intro l
    induction l with
    | nil => intro pre hp; simpa using hp
    | cons d l ih =>
      intro pre hp
      have := ih (pre ++ [d]) (by rw [first_push]; exact h _ _ _ hp)
      simpa using this
  simpa using this ds [] h0
theorem first_ids (ds : List DoneD) : (first ds).Pairwise fun a b => a.txn.id ≠ b.txn.id := by
  refine first_induct (P := fun _ acc => acc.Pairwise fun a b => a.txn.id ≠ b.txn.id) .nil (fun ds acc d h => ?_) ds
  unfold addF
  split
  · rename_i hc
    simp only [Bool.and_eq_true, Bool.not_eq_true', List.any_eq_false, decide_eq_true_eq] at hc
    refine List.pairwise_append.2 ⟨h, List.pairwise_singleton _ _, fun a ha b hb => ?_⟩
    simp at hb; subst hb
    exact hc.2 a ha
  · exact h
theorem first_sub (ds : List DoneD) : ∀ d ∈ first ds, d ∈ ds ∧ d.yes = true := by
  refine first_induct (P := fun ds acc => ∀ d ∈ acc, d ∈ ds ∧ d.yes = true) (by simp) (fun ds acc d h x hx => ?_) ds
  unfold addF at hx
  split at hx
  · rename_i hc
    simp only [Bool.and_eq_true] at hc
    rcases List.mem_append.1 hx with hx | hx
    · exact ⟨List.mem_append.2 (.inl (h x hx).1), (h x hx).2⟩
    · simp at hx; subst hx; exact ⟨by simp, hc.1⟩
  · exact ⟨List.mem_append.2 (.inl (h x hx).1), (h x hx).2⟩
theorem first_len (ds : List DoneD) : (first ds).length ≤ ds.length := by
  refine first_induct (P := fun ds acc => acc.length ≤ ds.length) (by simp) (fun ds acc d h => ?_) ds
  unfold addF
  split <;> simp <;> omega
theorem first_filter (ds : List DoneD) : first (ds.filter (·.yes)) = first ds := by
  refine first_induct (P := fun ds acc => first (ds.filter (·.yes)) = acc) rfl (fun ds acc d h => ?_) ds
  rw [List.filter_append]
  by_cases hy : d.yes = true
  · simp only [List.filter_cons, hy, if_true, List.filter_nil]
    rw [first_push, h]
  · simp only [List.filter_cons, hy]
    simp only [Bool.false_eq_true, if_false, List.filter_nil, List.append_nil]
    rw [h]; unfold addF; simp [hy]
/-- An id among the first ones is one of a committed one. -/
theorem first_any (ds : List DoneD) (i : IdD) : ((first ds).any fun x => decide (x.txn.id = i)) = ds.any fun x => x.yes && decide (x.txn.id = i) := by
  refine first_induct (P := fun ds acc => (acc.any fun x => decide (x.txn.id = i)) = ds.any fun x => x.yes && decide (x.txn.id = i)) rfl (fun ds acc d h => ?_) ds
  rw [List.any_append, ← h]
  unfold addF
  by_cases hy : d.yes = true
  · by_cases ha : (acc.any fun x => decide (x.txn.id = d.txn.id)) = true
    · rw [if_neg (by rw [hy, ha]; decide)]
      by_cases hi : d.txn.id = i
      · subst hi; rw [ha]; rfl
      · simp [hi]
    · rw [if_pos (by rw [hy]; simpa using ha), List.any_append]
      simp [hy]
  · simp [hy]
theorem first_nodup {ds : List DoneD} (h : ds.Pairwise fun a b => a.txn.id ≠ b.txn.id) : first ds = ds.filter (·.yes) := by
  have : ∀ l pre : List DoneD, (pre ++ l).Pairwise (fun a b => a.txn.id ≠ b.txn.id) → l.foldl addF (pre.filter (·.yes)) = (pre ++ l).filter (·.yes) := by
    intro l
    induction l with
    | nil => intro pre _; simp
    | cons d l ih =>
      intro pre hp
      have h2 := ih (pre ++ [d]) (by simpa using hp)
      rw [show pre ++ d :: l = pre ++ [d] ++ l by simp]
      rw [← h2, List.foldl_cons]
      congr 1
      rw [List.filter_append]
      unfold addF
      by_cases hy : d.yes = true
      · rw [if_pos]
        · simp [hy]
        · rw [hy]
          simp only [Bool.true_and, Bool.not_eq_true', List.any_eq_false, decide_eq_true_eq]
          intro x hx
          have := (List.pairwise_append.1 hp).2.2 x (List.mem_filter.1 hx).1 d (List.mem_cons_self ..)
          exact this
      · simp [hy]
  simpa [first] using this ds [] (by simpa using h)
/-- L is the witness of ds. -/
def IsWit (ds L : List DoneD) : Prop := L.Perm (first ds) ∧ L.Pairwise LtD
theorem perm_sorted : ∀ {L M : List DoneD}, L.Perm M → L.Pairwise LtD → M.Pairwise LtD → L = M
  | [], M, h, _, _ => (List.nil_perm.1 h).symm ▸ rfl
  | a :: L, [], h, _, _ => by have := h.length_eq; simp at this
  | a :: L, b :: M, h, h1, h2 => by
    rw [List.pairwise_cons] at h1 h2
    have hab : a = b := by
      rcases List.mem_cons.1 (h.mem_iff.1 (List.mem_cons_self ..)) with e | e
      · exact e
      · rcases List.mem_cons.1 (h.mem_iff.2 (List.mem_cons_self ..)) with e2 | e2
        · exact e2.symm
        · exact absurd (h1.1 b e2) (fun q => q.asymm (h2.1 a e))
    subst hab
    rw [perm_sorted (List.Perm.cons_inv h) h1.2 h2.2]
theorem IsWit.unique {ds L M : List DoneD} (h : IsWit ds L) (h2 : IsWit ds M) : L = M := perm_sorted (h.1.trans h2.1.symm) h.2 h2.2
theorem IsWit.of_first {ds ds' L : List DoneD} (h : IsWit ds L) (he : (first ds).Perm (first ds')) : IsWit ds' L := ⟨h.1.trans he, h.2⟩
theorem IsWit.ids {ds L : List DoneD} (h : IsWit ds L) : L.Pairwise fun a b => a.txn.id ≠ b.txn.id :=
  (h.1.pairwise_iff (fun h e => h e.symm)).2 (first_ids ds)
theorem IsWit.len {ds L : List DoneD} (h : IsWit ds L) : L.length ≤ ds.length := by rw [h.1.length_eq]; exact first_len ds
theorem IsWit.mem {ds L : List DoneD} (h : IsWit ds L) : ∀ d ∈ L, d ∈ ds := fun d hd => (first_sub ds d (h.1.mem_iff.1 hd)).1
theorem IsWit.sorted {ds L : List DoneD} (hp : L.Perm (first ds)) (h : L.Pairwise fun x y => lessD y x = false) : IsWit ds L := by
  refine ⟨hp, ?_⟩
  have hi : L.Pairwise fun a b => a.txn.id ≠ b.txn.id := (hp.pairwise_iff (fun h e => h e.symm)).2 (first_ids ds)
  refine (List.Pairwise.and hi h).imp ?_
  rintro a b ⟨h1, h2⟩
  exact LtD.total h1 (fun h3 => by rw [(lessD_iff _ _).2 h3] at h2; cases h2)

/-! A key's value ahead of one; at a stamp. -/
def wr1 (key : ByteArray) (v : ValD) (x : WrD) : ValD := if x.key = key then x.val else v
theorem wrote_take {ws : List WrD} {j : Nat} {x : WrD} (h : ws[j]? = some x) (key : ByteArray) (v : ValD) : wrote (ws.take (j + 1)) key v = wr1 key (wrote (ws.take j) key v) x := by
  unfold wrote
  rw [List.take_add_one, h, Option.toList_some, List.foldl_append]
  rfl
def ahead (id : IdD) (key : ByteArray) : ValD → List DoneD → Option ValD
  | _, [] => none
  | v, d :: l => if d.txn.id = id then some v else ahead id key (wrote d.txn.writes key v) l
def at1 (key : ByteArray) (stamp : Int) (v : ValD) (d : DoneD) : ValD := if d.stamp ≤ stamp then wrote d.txn.writes key v else v
def atS (key : ByteArray) (stamp : Int) (l : List DoneD) : ValD := l.foldl (at1 key stamp) zeroVal
theorem atS_take {l : List DoneD} {j : Nat} {d : DoneD} (h : l[j]? = some d) (key : ByteArray) (stamp : Int) : atS key stamp (l.take (j + 1)) = at1 key stamp (atS key stamp (l.take j)) d := by
  unfold atS
  rw [List.take_add_one, h, Option.toList_some, List.foldl_append]
  rfl
end Go.Proofs.Ytmdfilffoomckaa
