/- What the queue's acts keep: plain laws. Conditions: each law's own. -/
import Derived.Test.YtamjdghjaimihaaRDone
namespace Go.Proofs.Ytamjdghjaimihaa

/-- The clock rises; each that waits was there with a stamp no greater, or lies above the old clock. -/
def Up (g : Int) (S S' : QS) : Prop := S.clock ≤ S'.clock ∧ ∀ o' ∈ S'.L, (∃ o ∈ S.L, o.id = o'.id ∧ stampS g o ≤ stampS g o') ∨ S.clock < stampS g o'
theorem Up.refl (g : Int) (S : QS) : Up g S S := ⟨Int.le_refl _, fun o ho => .inl ⟨o, ho, rfl, Int.le_refl _⟩⟩
theorem Up.sub {g : Int} {S : QS} {L : List OneD} (h : ∀ o ∈ L, o ∈ S.L) : Up g S ⟨S.clock, L⟩ := ⟨Int.le_refl _, fun o ho => .inl ⟨o, h o ho, rfl, Int.le_refl _⟩⟩
theorem kn_le_top {g : Int} (hg : 0 ≤ g ∧ g < 4) (o : OneD) : o.kn g ≤ topS o := by
  have : g = 0 ∨ g = 1 ∨ g = 2 ∨ g = 3 := by omega
  unfold topS
  rcases this with rfl | rfl | rfl | rfl <;> omega
theorem own_le_stamp {g : Int} (hg : 0 ≤ g ∧ g < 4) (o : OneD) : o.kn g ≤ stampS g o := by
  have := kn_le_top hg o
  unfold stampS; split <;> omega
theorem find_mem {L : List OneD} {id : IdD} {o : OneD} (h : find L id = some o) : o ∈ L ∧ o.id = id := by
  unfold find at h
  exact ⟨List.mem_of_find?_eq_some h, by simpa using List.find?_some h⟩
theorem find_no {L : List OneD} {id : IdD} (h : find L id = none) : ∀ o ∈ L, o.id ≠ id := fun o ho => by
  unfold find at h
  have := List.find?_eq_none.1 h o ho
  simpa using this
theorem QOk.beginS {g : Int} {S : QS} (h : QOk g S) (hg : 0 ≤ g ∧ g < 4) (id : IdD) (groups : List Int) :
    QOk g (beginS g S id groups).2 ∧ Up g S (beginS g S id groups).2 ∧ (beginS g S id groups).2.L.length ≤ S.L.length + 1 := by
  unfold Ytamjdghjaimihaa.beginS
  by_cases hr : goodX id = true ∧ Right g groups
  · rw [if_pos hr]
    cases hf : find S.L id with
    | some o => exact ⟨h, Up.refl _ _, Nat.le_succ _⟩
    | none =>
      simp only
      by_cases hc : S.clock ≥ mostS
      · rw [if_pos hc]; exact ⟨h, Up.refl _ _, Nat.le_succ _⟩
      · rw [if_neg hc]
        have h0 := h.clock0
        refine ⟨h.begin hg hr.2 (find_no hf) (by omega), ⟨by simp only; omega, fun o ho => ?_⟩, by simp⟩
        rcases List.mem_append.1 ho with h1 | h1
        · exact .inl ⟨o, h1, rfl, Int.le_refl _⟩
        · simp at h1; subst h1
          right; rw [stampS_new hg (by omega)]; omega
  · rw [if_neg hr]; exact ⟨h, Up.refl _ _, Nat.le_succ _⟩
theorem setKn_stamp {g : Int} (hg : 0 ≤ g ∧ g < 4) {o : OneD} {k t : Int} (hk : k ≠ g) (hm : k ∈ o.groups) (h0 : o.kn k = 0) : stampS g o ≤ stampS g (setKn o k t) := by
  have hnf : final o = false := by
    unfold final
    rw [List.all_eq_false]
    exact ⟨k, hm, by simp [h0]⟩
  have h1 : stampS g o = o.kn g := by unfold stampS; rw [hnf]; rfl
  have h2 : (setKn o k t).kn g = o.kn g := by show (if g = k then t else o.kn g) = _; rw [if_neg (Ne.symm hk)]
  rw [h1, ← h2]
  exact own_le_stamp hg _
theorem QOk.learnS {g : Int} {S : QS} (h : QOk g S) (hg : 0 ≤ g ∧ g < 4) (id : IdD) (k t : Int) :
    QOk g (learnS g S id k t).2 ∧ Up g S (learnS g S id k t).2 ∧ (learnS g S id k t).2.L.length = S.L.length := by
  unfold Ytamjdghjaimihaa.learnS
  cases hf : find S.L id with
  | none => exact ⟨h, Up.refl _ _, rfl⟩
  | some o =>
    obtain ⟨ho, -⟩ := find_mem hf
    simp only
    by_cases hc : k = g ∨ k ∉ o.groups ∨ t < 1 ∨ mostS < t
    · rw [if_pos hc]; exact ⟨h, Up.refl _ _, rfl⟩
    · rw [if_neg hc]
      by_cases h0 : o.kn k ≠ 0
      · rw [if_pos h0]; exact ⟨h, Up.refl _ _, rfl⟩
      · rw [if_neg h0]
        have h0' : o.kn k = 0 := Decidable.not_not.1 h0
        have hk : k ≠ g := fun e => hc (.inl e)
        have hm : k ∈ o.groups := Decidable.not_not.1 fun e => hc (.inr (.inl e))
        have ht1 : 1 ≤ t := by by_cases e : t < 1; exact absurd (.inr (.inr (.inl e))) hc; omega
        have ht2 : t ≤ mostS := by by_cases e : mostS < t; exact absurd (.inr (.inr (.inr e))) hc; omega
        refine ⟨h.learn ho hk hm ht1 ht2, ⟨clockL_ge g S (setKn o k t), fun z hz => ?_⟩, by simp [put]⟩
        simp only [put] at hz
        obtain ⟨x, hx, rfl⟩ := List.mem_map.1 hz
        split
        · rename_i he
          exact .inl ⟨o, ho, rfl, setKn_stamp hg hk hm h0'⟩
        · exact .inl ⟨x, hx, rfl, Int.le_refl _⟩
theorem QOk.doneS {g : Int} {S : QS} (h : QOk g S) (id : IdD) :
    QOk g (doneS g S id).2 ∧ Up g S (doneS g S id).2 ∧ (doneS g S id).2.L.length ≤ S.L.length := by
  unfold Ytamjdghjaimihaa.doneS
  cases nextS g S with
  | none => exact ⟨h, Up.refl _ _, Nat.le_refl _⟩
  | some x =>
    simp only
    split
    · exact ⟨h.erase id, Up.sub fun o ho => (List.mem_filter.1 ho).1, List.length_filter_le _ _⟩
    · exact ⟨h, Up.refl _ _, Nat.le_refl _⟩
theorem head_least {g : Int} {S : QS} (h : QOk g S) {o : OneD} {l : List OneD} (ho : ord g S.L = o :: l) : o ∈ S.L ∧ ∀ z ∈ S.L, z = o ∨ LtO g o z := by
  have hs := ord_sorted g h.apart
  unfold Sorted at hs
  rw [ho, List.pairwise_cons] at hs
  refine ⟨ord_mem.1 (by rw [ho]; exact List.mem_cons_self ..), fun z hz => ?_⟩
  have := ord_mem (g := g).2 hz
  rw [ho] at this
  rcases List.mem_cons.1 this with h1 | h1
  · exact .inl h1
  · exact .inr (hs.1 z h1)
theorem LtO.le {g : Int} {a b : OneD} (h : b = a ∨ LtO g a b) : stampS g a ≤ stampS g b := by
  rcases h with rfl | h
  · exact Int.le_refl _
  · unfold LtO at h; omega
theorem safe_spec {g : Int} {S : QS} (h : QOk g S) (hg : 0 ≤ g ∧ g < 4) : 0 ≤ safeS g S ∧ safeS g S ≤ S.clock ∧ (∀ o ∈ S.L, safeS g S < stampS g o) ∧ (safeS g S = S.clock ∨ ∃ o ∈ S.L, safeS g S = stampS g o - 1) := by
  unfold safeS
  cases ho : ord g S.L with
  | nil =>
    have : S.L = [] := by
      have := ord_len g S.L
      rw [ho] at this
      exact List.eq_nil_of_length_eq_zero this.symm
    refine ⟨h.clock0, Int.le_refl _, fun o ho => ?_, .inl rfl⟩
    rw [this] at ho; cases ho
  | cons o l =>
    obtain ⟨h1, h2⟩ := head_least h ho
    have ok := h.ones o h1
    have hp := own_le_stamp hg o
    have := ok.ownPos
    have := ok.top
    refine ⟨by simp only; omega, by simp only; omega, fun z hz => ?_, .inr ⟨o, h1, rfl⟩⟩
    have := LtO.le (h2 z hz)
    simp only; omega
/-- Safe lies below all that waits, and not above the clock. -/
def SafeOk (g : Int) (S : QS) (s : Int) : Prop := s ≤ S.clock ∧ ∀ o ∈ S.L, s < stampS g o
theorem safeOk {g : Int} {S : QS} (h : QOk g S) (hg : 0 ≤ g ∧ g < 4) : SafeOk g S (safeS g S) := ⟨(safe_spec h hg).2.1, (safe_spec h hg).2.2.1⟩
theorem Up.above {g : Int} {S S' : QS} {s : Int} (hu : Up g S S') (h : SafeOk g S s) : SafeOk g S' s := by
  refine ⟨Int.le_trans h.1 hu.1, fun o' ho' => ?_⟩
  rcases hu.2 o' ho' with ⟨o, ho, -, hle⟩ | h1
  · have := h.2 o ho; omega
  · have := h.1; omega
theorem Up.safe {g : Int} {S S' : QS} (hu : Up g S S') (h : QOk g S) (h' : QOk g S') (hg : 0 ≤ g ∧ g < 4) : safeS g S ≤ safeS g S' := by
  obtain ⟨h1, h2⟩ := hu.above (safeOk h hg)
  rcases (safe_spec h' hg).2.2.2 with e | ⟨o, ho, e⟩
  · rw [e]; exact h1
  · have := h2 o ho
    omega
/-- The last that was done lies ahead of all that wait. -/
def LastOk (g : Int) (S : QS) (last : Int) (id : IdD) : Prop := 0 ≤ last ∧ last ≤ S.clock ∧ (0 < last → ∀ o ∈ S.L, last < stampS g o ∨ (last = stampS g o ∧ lessId id o.id = true))
theorem LastOk.start (g : Int) (S : QS) (h : 0 ≤ S.clock) (id : IdD) : LastOk g S 0 id := ⟨Int.le_refl _, h, fun h => absurd h (by omega)⟩
theorem Up.last {g : Int} {S S' : QS} {last : Int} {id : IdD} (hu : Up g S S') (h : LastOk g S last id) : LastOk g S' last id := by
  refine ⟨h.1, Int.le_trans h.2.1 hu.1, fun hp o' ho' => ?_⟩
  rcases hu.2 o' ho' with ⟨o, ho, he, hle⟩ | h1
  · rcases h.2.2 hp o ho with h2 | ⟨h2, h3⟩
    · left; omega
    · rcases Int.lt_or_eq_of_le hle with h4 | h4
      · left; omega
      · right; exact ⟨by omega, he ▸ h3⟩
  · have := h.2.1; left; omega
/-- What is next: the least of all, known by all. -/
theorem next_spec {g : Int} {S : QS} (h : QOk g S) {x : IdD × Int} (hn : nextS g S = some x) :
    ∃ o ∈ S.L, o.id = x.1 ∧ stampS g o = x.2 ∧ final o = true ∧ (∀ z ∈ S.L, z = o ∨ LtO g o z) ∧ doneS g S x.1 = (true, ⟨S.clock, S.L.filter fun z => decide (z.id ≠ x.1)⟩) := by
  have hd : doneS g S x.1 = (true, ⟨S.clock, S.L.filter fun z => decide (z.id ≠ x.1)⟩) := by
    unfold doneS; rw [hn]; simp
  unfold nextS at hn
  cases ho : ord g S.L with
  | nil => rw [ho] at hn; cases hn
  | cons o l =>
    rw [ho] at hn
    simp only at hn
    obtain ⟨h1, h2⟩ := head_least h ho
    by_cases hf : final o = true
    · rw [if_pos hf] at hn
      cases hn
      exact ⟨o, h1, rfl, rfl, hf, h2, hd⟩
    · rw [if_neg hf] at hn; cases hn
theorem less_iff {a b : IdD} : lessId a b = true ↔ a.s < b.s ∨ (a.s = b.s ∧ a.q < b.q) := by
  unfold lessId
  simp [Bool.or_eq_true, Bool.and_eq_true]
theorem last_next {g : Int} {S : QS} (h : QOk g S) {x : IdD × Int} (hn : nextS g S = some x) {last : Int} {id : IdD} (hl : LastOk g S last id) :
    ¬ x.2 < last ∧ (x.2 = last → 0 < last → lessId id x.1 = true) ∧ LastOk g (doneS g S x.1).2 x.2 x.1 := by
  obtain ⟨o, ho, h1, h2, h3, h4, h5⟩ := next_spec h hn
  have ok := h.ones o ho
  refine ⟨fun hlt => ?_, fun he hp => ?_, ?_⟩
  · rcases hl.2.2 (by have := ok.top; have := hl.1; have := ok.small; unfold stampS topS at h2; have := ok.small 0; have := ok.small g; split at h2 <;> omega) o ho with h6 | h6 <;> omega
  · rcases hl.2.2 hp o ho with h6 | h6
    · omega
    · rw [← h1]; exact h6.2
  · rw [h5]
    refine ⟨?_, by have := ok.top; simp only; omega, fun _ z hz => ?_⟩
    · have := ok.small 0; have := ok.small g
      rw [← h2]; unfold stampS topS; split <;> omega
    · have hz' := List.mem_filter.1 hz
      rcases h4 z hz'.1 with rfl | h6
      · exact absurd h1 (by simpa using hz'.2)
      · unfold LtO at h6
        rcases h6 with h6 | ⟨h6, h7⟩
        · left; omega
        · right; exact ⟨by omega, less_iff.2 (by rw [← h1]; exact h7)⟩

/-! ### An act -/
structure OpD where
  kind : Int
  id : IdD
  groups : List Int
  group : Int
  stamp : Int
def nextId (g : Int) (S : QS) : IdD := match nextS g S with
  | some x => x.1
  | none => ⟨0, 0⟩
def actS (g : Int) (S : QS) (o : OpD) : QS :=
  if o.kind = 1 then (beginS g S o.id o.groups).2
  else if o.kind = 2 then (learnS g S o.id o.group o.stamp).2
  else if o.kind = 3 then (doneS g S o.id).2
  else if o.kind = 4 then (doneS g S (nextId g S)).2
  else S
theorem actS_ok {g : Int} {S : QS} (h : QOk g S) (hg : 0 ≤ g ∧ g < 4) (o : OpD) : QOk g (actS g S o) ∧ Up g S (actS g S o) ∧ (actS g S o).L.length ≤ S.L.length + 1 := by
  unfold actS
  split
  · exact h.beginS hg _ _
  · split
    · obtain ⟨h1, h2, h3⟩ := h.learnS hg o.id o.group o.stamp
      exact ⟨h1, h2, by omega⟩
    · split
      · obtain ⟨h1, h2, h3⟩ := h.doneS o.id
        exact ⟨h1, h2, by omega⟩
      · split
        · obtain ⟨h1, h2, h3⟩ := h.doneS (nextId g S)
          exact ⟨h1, h2, by omega⟩
        · exact ⟨h, Up.refl _ _, Nat.le_succ _⟩
end Go.Proofs.Ytamjdghjaimihaa
