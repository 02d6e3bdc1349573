/- Transactions that are run one behind the other on one store: the history is one that can be. Plain laws, no program in sight. -/
import Derived.Test.YtmdfilffoomckaaApply
namespace Go.Proofs.Ytmdfilffoomckaa

def idAt (k : Nat) : IdD := ⟨1 + ((k % 8 : Nat) : Int), 1 + ((k / 8 : Nat) : Int)⟩
theorem idAt_inj {i j : Nat} (h : idAt i = idAt j) : i = j := by
  unfold idAt at h
  injection h with h1 h2
  omega
structure RunInv (D : List DoneD) (S : List SeenD) (L : List ItemD) (last : Int) : Prop where
  ids : ∀ (k : Nat) d, D[k]? = some d → d.txn.id = idAt k
  yes : ∀ d ∈ D, d.yes = true
  rise : D.Pairwise fun a b => a.stamp < b.stamp
  top : ∀ d ∈ D, d.stamp ≤ last
  store : ∀ key t, seenL L key t = atS key t D
  seen : ∀ s ∈ S, ∃ (k : Nat) (d : DoneD), D[k]? = some d ∧ s.id = d.txn.id ∧ s.val = valN s.key (D.take k)
  small : ∀ s ∈ S, s.val.text.size ≤ 40
  items : ∀ x ∈ L, x.val.text.size ≤ 40
theorem RunInv.start : RunInv [] [] [] 0 := ⟨by simp, by simp, .nil, by simp, fun _ _ => rfl, by simp, by simp, by simp⟩
theorem seen_small {L : List ItemD} (h : ∀ x ∈ L, x.val.text.size ≤ 40) (key : ByteArray) (t : Int) : (seenL L key t).text.size ≤ 40 := by
  induction L with
  | nil => simp [seenL, zeroVal]
  | cons x L ih =>
    rw [seenL]
    split
    · exact h x (List.mem_cons_self ..)
    · exact ih fun y hy => h y (List.mem_cons_of_mem _ hy)
theorem atS_all {D : List DoneD} {t : Int} (h : ∀ d ∈ D, d.stamp ≤ t) (key : ByteArray) : atS key t D = valN key D := by
  have : ∀ (l : List DoneD) (v : ValD), (∀ d ∈ l, d.stamp ≤ t) → l.foldl (at1 key t) v = l.foldl (fun v d => wrote d.txn.writes key v) v := by
    intro l
    induction l with
    | nil => intro v _; rfl
    | cons d l ih =>
      intro v hl
      rw [List.foldl_cons, List.foldl_cons, ih _ (fun x hx => hl x (List.mem_cons_of_mem _ hx))]
      unfold at1; rw [if_pos (hl d (List.mem_cons_self ..))]
  exact this D zeroVal h
theorem formed_small {v : ValD} (h : FormedOk v) : v.text.size ≤ 40 := by
  rcases h with ⟨-, -, h⟩ | ⟨-, h, -⟩ | ⟨-, -, h, -⟩
  · rw [h]; decide
  · rw [h]; decide
  · exact h
section
variable {D : List DoneD} {S S1 : List SeenD} {L L' : List ItemD} {last at_ : Int}
/-- One more transaction is run. -/
theorem RunInv.push (h : RunInv D S L last) {t : TxnD} (hid : t.id = idAt D.length) (hat : last < at_) (hw : WritesOk t.writes)
    (hs : ∀ s ∈ S1, s.id = idAt D.length ∧ s.val = seenL L s.key last)
    (hl : ∀ key u, seenL L' key u = if at_ ≤ u then wrote t.writes key (seenL L key u) else seenL L key u)
    (hm : ∀ x ∈ L', x ∈ L ∨ ∃ y ∈ t.writes, x.val = y.val) : RunInv (D ++ [⟨t, true, at_⟩]) (S ++ S1) L' at_ where
  ids := fun k d hk => by
    rcases Nat.lt_or_ge k D.length with h1 | h1
    · rw [List.getElem?_append_left h1] at hk; exact h.ids k d hk
    · have hk1 : k = D.length := by have := (List.getElem?_eq_some_iff.1 hk).1; simp at this; omega
      subst hk1
      rw [List.getElem?_append_right h1] at hk
      simp at hk; subst hk
      exact hid
  yes := fun d hd => by
    rcases List.mem_append.1 hd with h1 | h1
    · exact h.yes d h1
    · simp at h1; subst h1; rfl
  rise := by
    rw [List.pairwise_append]
    refine ⟨h.rise, List.pairwise_singleton _ _, fun a ha b hb => ?_⟩
    simp at hb; subst hb
    have := h.top a ha
    simp only; omega
  top := fun d hd => by
    rcases List.mem_append.1 hd with h1 | h1
    · have := h.top d h1; omega
    · simp at h1; subst h1; exact Int.le_refl _
  store := fun key u => by
    rw [hl, h.store]
    unfold atS
    rw [List.foldl_append]
    show _ = at1 key u _ _
    unfold at1
    rfl
  seen := fun s hsm => by
    rcases List.mem_append.1 hsm with h1 | h1
    · obtain ⟨k, d, h2, h3, h4⟩ := h.seen s h1
      have hk := (List.getElem?_eq_some_iff.1 h2).1
      refine ⟨k, d, by rw [List.getElem?_append_left hk]; exact h2, h3, ?_⟩
      rw [List.take_append_of_le_length (by omega)]; exact h4
    · obtain ⟨h2, h3⟩ := hs s h1
      refine ⟨D.length, ⟨t, true, at_⟩, by simp, by rw [h2, hid], ?_⟩
      rw [List.take_left, h3, h.store, atS_all h.top]
  small := fun s hsm => by
    rcases List.mem_append.1 hsm with h1 | h1
    · exact h.small s h1
    · rw [(hs s h1).2]; exact seen_small h.items _ _
  items := fun x hx => by
    rcases hm x hx with h1 | ⟨y, hy, h1⟩
    · exact h.items x h1
    · rw [h1]
      obtain ⟨i, hi⟩ := List.getElem?_of_mem hy
      exact formed_small (hw i (List.getElem?_eq_some_iff.1 hi).1 y hi).2.1
theorem RunInv.apart (h : RunInv D S L last) : D.Pairwise fun a b => a.txn.id ≠ b.txn.id := by
  refine List.pairwise_iff_getElem.2 fun i j hi hj hij e => ?_
  rw [h.ids i _ (List.getElem?_eq_getElem hi), h.ids j _ (List.getElem?_eq_getElem hj)] at e
  have := idAt_inj e
  omega
theorem RunInv.wit (h : RunInv D S L last) : wit D = D := by
  refine (IsWit.eq ⟨?_, ?_⟩).symm
  · rw [first_nodup h.apart, List.filter_eq_self.2 h.yes]
  · refine h.rise.imp fun {a b} hab => ?_
    unfold LtD; omega
theorem RunInv.single (h : RunInv D S L last) : Single D := h.apart.imp fun h1 e => absurd e h1
theorem RunInv.ahead (h : RunInv D S L last) {s : SeenD} (hs : s ∈ S) : Go.Proofs.Ytmdfilffoomckaa.ahead s.id s.key zeroVal (Go.Proofs.Ytmdfilffoomckaa.wit D) = some s.val := by
  obtain ⟨k, d, h1, h2, h3⟩ := h.seen s hs
  rw [h.wit, h3]
  refine ahead_hit (fun i y hi hy e => ?_) h1 h2.symm
  rw [h2, h.ids i y hy, h.ids k d h1] at e
  have := idAt_inj e
  omega
theorem RunInv.serial (h : RunInv D S L last) : Serial D S := fun s hs v hv => by
  rw [h.ahead hs] at hv; exact (Option.some.inj hv).symm
theorem RunInv.snap (h : RunInv D S L last) {x : SnapD} (hf : ¬ x.stamp < x.floor) (hv : x.vals = x.keys.map fun k => seenL L k x.stamp) : Snapshots D [x] := by
  intro y hy
  simp at hy; subst hy
  refine ⟨hf, by rw [hv]; simp, fun i k v hk hvk => ?_⟩
  rw [hv, List.getElem?_map, hk] at hvk
  simp at hvk
  rw [h.wit, ← hvk, h.store]
/-- One wrong value. -/
def wrongVal (v : ValD) : ValD := ⟨2, 0, v.text ++ ⟨#[120]⟩⟩
theorem RunInv.wrong (h : RunInv D S L last) {k : Nat} {s : SeenD} (hk : S[k]? = some s) : ¬ Serial D (S.set k ⟨s.id, s.key, wrongVal s.val⟩) := fun hs => by
  have hl := (List.getElem?_eq_some_iff.1 hk).1
  have h1 := hs ⟨s.id, s.key, wrongVal s.val⟩ (List.mem_of_getElem? (i := k) (by rw [List.getElem?_set_self hl])) s.val (h.ahead (List.mem_of_getElem? hk))
  have h2 : s.val.text = s.val.text ++ ⟨#[120]⟩ := congrArg ValD.text h1
  have h3 := congrArg ByteArray.size h2
  rw [ByteArray.size_append] at h3
  have : (ByteArray.mk #[120]).size = 1 := rfl
  omega
end
end Go.Proofs.Ytmdfilffoomckaa
