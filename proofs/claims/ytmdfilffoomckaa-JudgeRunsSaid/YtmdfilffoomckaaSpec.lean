/- The witness as a list; what is reckoned of a history: plain laws, no program in sight. Conditions: each law's own. -/
import Derived.Test.YtmdfilffoomckaaWit
namespace Go.Proofs.Ytmdfilffoomckaa

def leD (a b : DoneD) : Bool := !lessD b a
theorem leD_iff (a b : DoneD) : leD a b = true ↔ ¬ LtD b a := by unfold leD; rw [← lessD_iff]; simp
def wit (ds : List DoneD) : List DoneD := (first ds).mergeSort leD
theorem wit_is (ds : List DoneD) : IsWit ds (wit ds) := by
  refine IsWit.sorted (List.mergeSort_perm _ _) ?_
  have := List.pairwise_mergeSort (le := leD) (fun a b c h1 h2 => by
    rw [leD_iff] at *
    unfold LtD LtI at *; omega) (fun a b => by
    simp only [Bool.or_eq_true, leD_iff]
    by_cases h : LtD b a
    · exact .inr h.asymm
    · exact .inl h) (first ds)
  refine this.imp ?_
  intro a b h
  unfold leD at h
  simpa using h
theorem IsWit.eq {ds L : List DoneD} (h : IsWit ds L) : L = wit ds := h.unique (wit_is ds)
theorem wit_perm {ds ds' : List DoneD} (h : (first ds).Perm (first ds')) : wit ds = wit ds' := ((wit_is ds).of_first h).eq
theorem wit_len (ds : List DoneD) : (wit ds).length ≤ ds.length := (wit_is ds).len

/-- One more, put in at m. -/
theorem IsWit.put {ds L : List DoneD} {d : DoneD} {m : Nat} (h : IsWit ds L) (hf : first (ds ++ [d]) = first ds ++ [d]) (hb : ∀ (i : Nat) q, i < m → L[i]? = some q → lessD q d = true) (ha : ∀ q, L[m]? = some q → lessD q d = false) :
    IsWit (ds ++ [d]) (L.take m ++ [d] ++ L.drop m) := by
  have hid : ∀ q ∈ L, q.txn.id ≠ d.txn.id := by
    have := first_ids (ds ++ [d])
    rw [hf, List.pairwise_append] at this
    exact fun q hq => this.2.2 q (h.1.mem_iff.1 hq) d (by simp)
  refine ⟨?_, ?_⟩
  · rw [hf]
    refine List.Perm.trans ?_ (h.1.append_right [d])
    refine List.Perm.trans ?_ (l₂ := (L.take m ++ L.drop m) ++ [d]) (by rw [List.take_append_drop])
    rw [List.append_assoc, List.append_assoc]
    exact List.Perm.append_left _ List.perm_append_comm
  · have hd : ∀ q ∈ L.drop m, LtD d q := by
      intro q hq
      obtain ⟨i, hi⟩ := List.getElem?_of_mem hq
      rw [List.getElem?_drop] at hi
      have hlt : m < L.length := by have := (List.getElem?_eq_some_iff.1 hi).1; omega
      have h0 : LtD d L[m] := LtD.total (fun e => hid _ (List.getElem_mem hlt) e.symm) (fun h2 => by have := ha _ (List.getElem?_eq_getElem hlt); rw [(lessD_iff _ _).2 h2] at this; cases this)
      cases i with
      | zero => rw [Nat.add_zero, List.getElem?_eq_getElem hlt] at hi; cases hi; exact h0
      | succ i =>
        have h2 := List.pairwise_iff_getElem.1 h.2 m (m + (i + 1)) hlt (List.getElem?_eq_some_iff.1 hi).1 (by omega)
        rw [(List.getElem?_eq_some_iff.1 hi).2] at h2
        exact h0.trans h2
    have ht : ∀ q ∈ L.take m, LtD q d := by
      intro q hq
      obtain ⟨i, hi⟩ := List.getElem?_of_mem hq
      rw [List.getElem?_take] at hi
      split at hi
      · rename_i hl; exact (lessD_iff _ _).1 (hb i q hl hi)
      · cases hi
    rw [List.append_assoc, List.pairwise_append]
    refine ⟨h.2.sublist (List.take_sublist _ _), ?_, fun a ha2 b hb2 => ?_⟩
    · rw [List.singleton_append, List.pairwise_cons]
      exact ⟨hd, h.2.sublist (List.drop_sublist _ _)⟩
    · rcases List.mem_append.1 hb2 with h1 | h1
      · simp at h1; subst h1; exact ht a ha2
      · exact (ht a ha2).trans (hd b h1)

/-! ### A key's value behind the first n -/
def valN (key : ByteArray) (L : List DoneD) : ValD := L.foldl (fun v d => wrote d.txn.writes key v) zeroVal
theorem valN_take {L : List DoneD} {j : Nat} {d : DoneD} (h : L[j]? = some d) (key : ByteArray) : valN key (L.take (j + 1)) = wrote d.txn.writes key (valN key (L.take j)) := by
  unfold valN
  rw [List.take_add_one, h, Option.toList_some, List.foldl_append]
  rfl
theorem ahead_at {L : List DoneD} {id : IdD} {key : ByteArray} {j : Nat} (h : ∀ (i : Nat) d, i < j → L[i]? = some d → d.txn.id ≠ id) : ahead id key zeroVal L = ahead id key (valN key (L.take j)) (L.drop j) := by
  induction j with
  | zero => simp [valN]
  | succ j ih =>
    rw [ih (fun i d hi => h i d (by omega))]
    rcases Nat.lt_or_ge j L.length with hl | hl
    · rw [List.drop_eq_getElem_cons hl, ahead, if_neg (h j _ (by omega) (List.getElem?_eq_getElem hl)), valN_take (List.getElem?_eq_getElem hl)]
    · rw [List.drop_eq_nil_of_le hl, List.drop_eq_nil_of_le (by omega)]; rfl
theorem ahead_hit {L : List DoneD} {id : IdD} {key : ByteArray} {j : Nat} {d : DoneD} (h : ∀ (i : Nat) d, i < j → L[i]? = some d → d.txn.id ≠ id) (hd : L[j]? = some d) (he : d.txn.id = id) : ahead id key zeroVal L = some (valN key (L.take j)) := by
  rw [ahead_at h]
  have hl := (List.getElem?_eq_some_iff.1 hd).1
  rw [List.drop_eq_getElem_cons hl, ahead, if_pos (by rw [(List.getElem?_eq_some_iff.1 hd).2]; exact he)]
theorem ahead_miss {L : List DoneD} {id : IdD} {key : ByteArray} (h : ∀ (i : Nat) d, i < L.length → L[i]? = some d → d.txn.id ≠ id) : ahead id key zeroVal L = none := by
  rw [ahead_at h, List.drop_length]; rfl

/-- At a stamp: the first n, if they are just those. -/
theorem atS_cut {L : List DoneD} {key : ByteArray} {stamp : Int} {n : Nat} (hs : L.Pairwise LtD) (hb : ∀ (i : Nat) d, i < n → L[i]? = some d → d.stamp ≤ stamp) (ha : ∀ d, L[n]? = some d → ¬ d.stamp ≤ stamp) : atS key stamp L = valN key (L.take n) := by
  have h1 : ∀ l : List DoneD, (∀ d ∈ l, d.stamp ≤ stamp) → ∀ v, l.foldl (at1 key stamp) v = l.foldl (fun v d => wrote d.txn.writes key v) v := by
    intro l
    induction l with
    | nil => intro _ v; rfl
    | cons d l ih =>
      intro h v
      rw [List.foldl_cons, List.foldl_cons, ih (fun x hx => h x (List.mem_cons_of_mem _ hx))]
      unfold at1; rw [if_pos (h d (List.mem_cons_self ..))]
  have h2 : ∀ l : List DoneD, (∀ d ∈ l, ¬ d.stamp ≤ stamp) → ∀ v, l.foldl (at1 key stamp) v = v := by
    intro l
    induction l with
    | nil => intro _ v; rfl
    | cons d l ih =>
      intro h v
      rw [List.foldl_cons, ih (fun x hx => h x (List.mem_cons_of_mem _ hx))]
      unfold at1; rw [if_neg (h d (List.mem_cons_self ..))]
  have e : atS key stamp L = (L.drop n).foldl (at1 key stamp) ((L.take n).foldl (at1 key stamp) zeroVal) := by
    unfold atS; rw [← List.foldl_append, List.take_append_drop]
  rw [e, h2, h1]
  · rfl
  · intro d hd
    obtain ⟨i, hi⟩ := List.getElem?_of_mem hd
    rw [List.getElem?_take] at hi
    split at hi
    · rename_i hl; exact hb i d hl hi
    · cases hi
  · intro d hd
    obtain ⟨i, hi⟩ := List.getElem?_of_mem hd
    rw [List.getElem?_drop] at hi
    have hlt : n < L.length := by have := (List.getElem?_eq_some_iff.1 hi).1; omega
    have h0 := ha _ (List.getElem?_eq_getElem hlt)
    cases i with
    | zero => exact ha d hi
    | succ i =>
      have h3 := List.pairwise_iff_getElem.1 hs n (n + (i + 1)) hlt (List.getElem?_eq_some_iff.1 hi).1 (by omega)
      rw [(List.getElem?_eq_some_iff.1 hi).2] at h3
      unfold LtD at h3
      omega

/-! ### Backwards: the last write of a key -/
theorem wrote_none {ws : List WrD} {key : ByteArray} (h : ∀ x ∈ ws, x.key ≠ key) (v : ValD) : wrote ws key v = v := by
  unfold wrote
  induction ws generalizing v with
  | nil => rfl
  | cons x ws ih =>
    rw [List.foldl_cons, if_neg (h x (List.mem_cons_self ..))]
    exact ih (fun y hy => h y (List.mem_cons_of_mem _ hy)) v
theorem wrote_append (a b : List WrD) (key : ByteArray) (v : ValD) : wrote (a ++ b) key v = wrote b key (wrote a key v) := by unfold wrote; rw [List.foldl_append]
/-- Behind place k nothing is written to the key. -/
theorem wrote_last {ws : List WrD} {key : ByteArray} {k : Nat} {x : WrD} (hk : ws[k]? = some x) (hx : x.key = key) (ha : ∀ (i : Nat) y, k < i → ws[i]? = some y → y.key ≠ key) (v : ValD) : wrote ws key v = x.val := by
  have hl := (List.getElem?_eq_some_iff.1 hk).1
  have e : ws = ws.take (k + 1) ++ ws.drop (k + 1) := (List.take_append_drop _ _).symm
  rw [e, wrote_append, wrote_none (ws := ws.drop (k + 1)), wrote_take hk]
  · unfold wr1; rw [if_pos hx]
  · intro y hy
    obtain ⟨i, hi⟩ := List.getElem?_of_mem hy
    rw [List.getElem?_drop] at hi
    exact ha _ y (by omega) hi
theorem wrote_miss {ws : List WrD} {key : ByteArray} (ha : ∀ (i : Nat) y, ws[i]? = some y → y.key ≠ key) (v : ValD) : wrote ws key v = v :=
  wrote_none (fun x hx => by obtain ⟨i, hi⟩ := List.getElem?_of_mem hx; exact ha i x hi) v
theorem valN_skip {L : List DoneD} {key : ByteArray} {i : Nat} {d : DoneD} (h : L[i]? = some d) (ha : ∀ (k : Nat) y, d.txn.writes[k]? = some y → y.key ≠ key) : valN key (L.take (i + 1)) = valN key (L.take i) := by
  rw [valN_take h, wrote_miss ha]

/-! ### What is told -/
def Agree (a b : DoneD) : Prop := a.txn.id = b.txn.id → a.yes = b.yes ∧ a.stamp = b.stamp
theorem Agree.symm {a b : DoneD} (h : Agree a b) : Agree b a := fun e => let ⟨h1, h2⟩ := h e.symm; ⟨h1.symm, h2.symm⟩
def Single (ds : List DoneD) : Prop := ds.Pairwise Agree
theorem single_push {ds : List DoneD} {i : Nat} {d : DoneD} (h : Single (ds.take i)) (hd : ds[i]? = some d) (ha : ∀ (m : Nat) y, m < i → ds[m]? = some y → Agree y d) : Single (ds.take (i + 1)) := by
  unfold Single at *
  rw [List.take_add_one, hd, Option.toList_some, List.pairwise_append]
  refine ⟨h, List.pairwise_singleton _ _, fun a ham b hb => ?_⟩
  simp at hb; subst hb
  obtain ⟨m, hm⟩ := List.getElem?_of_mem ham
  rw [List.getElem?_take] at hm
  split at hm
  · rename_i hl; exact ha m a hl hm
  · cases hm
theorem single_not {ds : List DoneD} {m i : Nat} {y d : DoneD} (hmi : m < i) (hy : ds[m]? = some y) (hd : ds[i]? = some d) (h : ¬ Agree y d) : ¬ Single ds := fun hs => by
  unfold Single at hs
  have := List.pairwise_iff_getElem.1 hs m i (List.getElem?_eq_some_iff.1 hy).1 (List.getElem?_eq_some_iff.1 hd).1 hmi
  rw [(List.getElem?_eq_some_iff.1 hy).2, (List.getElem?_eq_some_iff.1 hd).2] at this
  exact h this
def seenOk (ds : List DoneD) (s : SeenD) : Prop := ∀ v, ahead s.id s.key zeroVal (wit ds) = some v → v = s.val
def Serial (ds : List DoneD) (l : List SeenD) : Prop := ∀ s ∈ l, seenOk ds s
def snapOk (ds : List DoneD) (x : SnapD) : Prop := ¬ x.stamp < x.floor ∧ x.keys.length = x.vals.length ∧ ∀ (i : Nat) k v, x.keys[i]? = some k → x.vals[i]? = some v → atS k x.stamp (wit ds) = v
def Snapshots (ds : List DoneD) (l : List SnapD) : Prop := ∀ x ∈ l, snapOk ds x
end Go.Proofs.Ytmdfilffoomckaa
