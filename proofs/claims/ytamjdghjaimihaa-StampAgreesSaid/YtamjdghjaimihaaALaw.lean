/- Plain laws for StampAgrees: what groups take that tell each other their stamps. No program in sight. Conditions: each law's own. -/
import Derived.Test.YtamjdghjaimihaaSLaws
namespace Go.Proofs.Ytamjdghjaimihaa

def keyLt (a b : IdD × Int) : Prop := a.2 < b.2 ∨ (a.2 = b.2 ∧ (a.1.s < b.1.s ∨ (a.1.s = b.1.s ∧ a.1.q < b.1.q)))
theorem keyLt.asymm {a b : IdD × Int} (h : keyLt a b) (h2 : keyLt b a) : False := by unfold keyLt at *; omega
def keyOf (a : OneD) : IdD × Int := (a.id, topS a)
/-- A transaction that began in all its groups; kn h: the stamp that group h gave it. -/
structure AllOk (a : OneD) : Prop where
  known : ∀ h, a.kn h ≠ 0 → h ∈ a.groups
  pos : ∀ h ∈ a.groups, 1 ≤ a.kn h ∧ a.kn h ≤ mostS
/-- What waits in group g as o is a. -/
def Same (g : Int) (o a : OneD) : Prop := o.id = a.id ∧ o.groups = a.groups ∧ o.kn g = a.kn g ∧ ∀ h, o.kn h = 0 ∨ o.kn h = a.kn h
theorem Same.fin {g c : Int} {o a : OneD} (h : Same g o a) (ho : OneOk g c o) (ha : AllOk a) (hf : final o = true) : topS o = topS a := by
  have hk : ∀ k, o.kn k = a.kn k := fun k => by
    by_cases hm : k ∈ o.groups
    · rcases h.2.2.2 k with h1 | h1
      · unfold final at hf
        have := List.all_eq_true.1 hf k hm
        simp [h1] at this
      · exact h1
    · have h1 : o.kn k = 0 := by by_cases e : o.kn k = 0; exact e; exact absurd (ho.known k e) hm
      have h2 : a.kn k = 0 := by by_cases e : a.kn k = 0; exact e; exact absurd (h.2.1 ▸ ha.known k e) hm
      rw [h1, h2]
  unfold topS
  simp only [hk]
theorem Same.le {g c : Int} {o a : OneD} (hg : 0 ≤ g ∧ g < 4) (h : Same g o a) (ho : OneOk g c o) (ha : AllOk a) : stampS g o ≤ topS a := by
  cases hf : final o with
  | true => unfold stampS; rw [hf, if_pos rfl, h.fin ho ha hf]; exact Int.le_refl _
  | false => unfold stampS; rw [hf]; simp only [Bool.false_eq_true, if_false]; rw [h.2.2.1]; exact kn_le_top hg a
/-- Group g, of all of A: S waits, T is taken. -/
structure TakeOk (A : List OneD) (g : Int) (S : QS) (T : List (IdD × Int)) : Prop where
  ok : QOk g S
  same : ∀ o ∈ S.L, ∃ a ∈ A, Same g o a
  sorted : T.Pairwise keyLt
  ahead : ∀ t ∈ T, ∀ o ∈ S.L, ∀ a ∈ A, o.id = a.id → keyLt t (keyOf a)
  taken : ∀ t ∈ T, ∃ a ∈ A, t = keyOf a
theorem apart_eq {A : List OneD} (h : Apart A) {a b : OneD} (ha : a ∈ A) (hb : b ∈ A) (e : a.id = b.id) : a = b := by
  induction A with
  | nil => cases ha
  | cons z A ih =>
    unfold Apart at h
    rw [List.pairwise_cons] at h
    rcases List.mem_cons.1 ha with rfl | ha' <;> rcases List.mem_cons.1 hb with rfl | hb'
    · rfl
    · exact absurd e (h.1 _ hb')
    · exact absurd e.symm (h.1 _ ha')
    · exact ih h.2 ha' hb'
theorem filter_one {L : List OneD} (h : Apart L) {o : OneD} (ho : o ∈ L) : (L.filter fun z => decide (z.id ≠ o.id)).length + 1 = L.length := by
  induction L with
  | nil => cases ho
  | cons z L ih =>
    unfold Apart at h
    rw [List.pairwise_cons] at h
    rcases List.mem_cons.1 ho with rfl | ho'
    · have h1 : L.filter (fun z => decide (z.id ≠ o.id)) = L := List.filter_eq_self.2 fun x hx => by simpa using fun e => h.1 x hx e.symm
      rw [List.filter_cons_of_neg (by simp), h1, List.length_cons]
    · rw [List.filter_cons_of_pos (by simpa using h.1 o ho'), List.length_cons, List.length_cons, ih h.2 ho']
theorem TakeOk.take {A : List OneD} {g : Int} {S : QS} {T : List (IdD × Int)} (h : TakeOk A g S T) (hg : 0 ≤ g ∧ g < 4) (hA : ∀ a ∈ A, AllOk a) (hap : Apart A) {x : IdD × Int} (hn : nextS g S = some x) :
    (doneS g S x.1).1 = true ∧ TakeOk A g (doneS g S x.1).2 (T ++ [x]) ∧ (∀ o ∈ (doneS g S x.1).2.L, o ∈ S.L) ∧ (doneS g S x.1).2.L.length + 1 = S.L.length := by
  obtain ⟨o, ho, h1, h2, h3, h4, h5⟩ := next_spec h.ok hn
  obtain ⟨a, ha, hs⟩ := h.same o ho
  have hx : x = keyOf a := by
    have h6 : x.2 = topS a := by
      rw [← h2, ← hs.fin (h.ok.ones o ho) (hA a ha) h3]; unfold stampS; rw [h3, if_pos rfl]
    show (x.1, x.2) = (a.id, topS a)
    rw [h6, ← h1, hs.1]
  have hq := (h.ok.doneS x.1).1
  rw [h5] at hq ⊢
  refine ⟨rfl, ⟨hq, fun z hz => h.same z (List.mem_filter.1 hz).1, ?_, ?_, ?_⟩, fun z hz => (List.mem_filter.1 hz).1, by rw [← h1]; exact filter_one h.ok.apart ho⟩
  · rw [List.pairwise_append]
    refine ⟨h.sorted, by simp, fun t ht b hb => ?_⟩
    simp at hb; subst hb
    rw [hx]; exact h.ahead t ht o ho a ha hs.1
  · intro t ht z hz b hb e
    obtain ⟨hz1, hz2⟩ := List.mem_filter.1 hz
    rcases List.mem_append.1 ht with h6 | h6
    · exact h.ahead t h6 z hz1 b hb e
    · simp at h6; subst h6
      obtain ⟨c, hc, hs2⟩ := h.same z hz1
      have hcb : c = b := apart_eq hap hc hb (hs2.1.symm.trans e)
      subst hcb
      have hle := hs2.le hg (h.ok.ones z hz1) (hA c hc)
      have hne : z ≠ o := fun e => by subst e; simp [h1] at hz2
      have hlt : LtO g o z := (h4 z hz1).resolve_left hne
      unfold keyLt keyOf
      simp only
      unfold LtO at hlt
      rw [h2, h1, hs2.1] at hlt
      omega
  · intro t ht
    rcases List.mem_append.1 ht with h6 | h6
    · exact h.taken t h6
    · simp at h6; subst h6; exact ⟨a, ha, hx⟩
/-- Group g knows what group k gave to id, if id waits. -/
def Knows (S : QS) (id : IdD) (k : Int) : Prop := ∀ o ∈ S.L, o.id = id → o.kn k ≠ 0
/-- S' comes behind S. -/
def Then (S S' : QS) : Prop := ∀ o' ∈ S'.L, ∃ o ∈ S.L, o.id = o'.id ∧ ∀ h, o.kn h ≠ 0 → o'.kn h ≠ 0
theorem Then.refl (S : QS) : Then S S := fun o ho => ⟨o, ho, rfl, fun _ h => h⟩
theorem Then.trans {S S' S'' : QS} (h : Then S S') (h2 : Then S' S'') : Then S S'' := fun o ho => by
  obtain ⟨a, ha, h3, h4⟩ := h2 o ho
  obtain ⟨b, hb, h5, h6⟩ := h a ha
  exact ⟨b, hb, h5.trans h3, fun k hk => h4 k (h6 k hk)⟩
theorem Then.sub {S S' : QS} (h : ∀ o ∈ S'.L, o ∈ S.L) : Then S S' := fun o ho => ⟨o, h o ho, rfl, fun _ h => h⟩
theorem Then.knows {S S' : QS} (h : Then S S') {id : IdD} {k : Int} (hk : Knows S id k) : Knows S' id k := fun o ho e => by
  obtain ⟨a, ha, h3, h4⟩ := h o ho
  exact h4 k (hk a ha (h3.trans e))
theorem Then.nil {S S' : QS} (h : Then S S') (hn : S.L = []) : S'.L = [] := by
  cases hl : S'.L with
  | nil => rfl
  | cons o L =>
    obtain ⟨a, ha, -⟩ := h o (by rw [hl]; exact List.mem_cons_self ..)
    rw [hn] at ha; cases ha
theorem TakeOk.learn {A : List OneD} {g : Int} {S : QS} {T : List (IdD × Int)} (h : TakeOk A g S T) (hg : 0 ≤ g ∧ g < 4) (hA : ∀ a ∈ A, AllOk a) (hap : Apart A) {a : OneD} (ha : a ∈ A) {k : Int} (hk : k ≠ g) (hm : k ∈ a.groups) :
    TakeOk A g (learnS g S a.id k (a.kn k)).2 T ∧ Then S (learnS g S a.id k (a.kn k)).2 ∧ Knows (learnS g S a.id k (a.kn k)).2 a.id k ∧ (learnS g S a.id k (a.kn k)).2.L.length = S.L.length := by
  obtain ⟨hq, -, hlen⟩ := h.ok.learnS hg a.id k (a.kn k)
  obtain ⟨hp1, hp2⟩ := (hA a ha).pos k hm
  revert hq hlen
  unfold learnS
  cases hf : find S.L a.id with
  | none => exact fun _ _ => ⟨h, Then.refl _, fun o ho e => absurd e (find_no hf o ho), rfl⟩
  | some o =>
    obtain ⟨ho, hoid⟩ := find_mem hf
    obtain ⟨a', ha', hs⟩ := h.same o ho
    have haa : a' = a := apart_eq hap ha' ha (hs.1.symm.trans hoid)
    subst haa
    simp only
    rw [if_neg (by rw [hs.2.1]; rintro (h1 | h1 | h1 | h1); exact hk h1; exact h1 hm; omega; omega)]
    have huniq : ∀ z ∈ S.L, z.id = a'.id → z = o := fun z hz e => apart_eq h.ok.apart hz ho (e.trans hoid.symm)
    by_cases h0 : o.kn k ≠ 0
    · rw [if_pos h0]
      exact fun _ _ => ⟨h, Then.refl _, fun z hz e => by rw [huniq z hz e]; exact h0, rfl⟩
    · rw [if_neg h0]
      intro hq hlen
      have hmem : ∀ z ∈ put S.L (setKn o k (a'.kn k)), (∃ x ∈ S.L, x = z ∧ x.id ≠ o.id) ∨ z = setKn o k (a'.kn k) := fun z hz => by
        obtain ⟨x, hx, hxz⟩ := List.mem_map.1 hz
        by_cases e : x.id = (setKn o k (a'.kn k)).id
        · rw [if_pos e] at hxz; exact .inr hxz.symm
        · rw [if_neg e] at hxz; exact .inl ⟨x, hx, hxz, e⟩
      have hkn : ∀ j, (setKn o k (a'.kn k)).kn j = if j = k then a'.kn k else o.kn j := fun _ => rfl
      refine ⟨⟨hq, fun z hz => ?_, h.sorted, fun t ht z hz b hb e => ?_, h.taken⟩, fun z hz => ?_, fun z hz e => ?_, hlen⟩
      · rcases hmem z hz with ⟨x, hx, rfl, -⟩ | rfl
        · exact h.same x hx
        · refine ⟨a', ha', hs.1, hs.2.1, ?_, fun j => ?_⟩
          · rw [hkn, if_neg (Ne.symm hk)]; exact hs.2.2.1
          · rw [hkn]
            split
            · rename_i e; subst e; exact .inr rfl
            · exact hs.2.2.2 j
      · rcases hmem z hz with ⟨x, hx, rfl, -⟩ | rfl
        · exact h.ahead t ht x hx b hb e
        · exact h.ahead t ht o ho b hb e
      · rcases hmem z hz with ⟨x, hx, rfl, -⟩ | rfl
        · exact ⟨x, hx, rfl, fun _ h => h⟩
        · refine ⟨o, ho, rfl, fun j hj => ?_⟩
          rw [hkn]; split
          · omega
          · exact hj
      · rcases hmem z hz with ⟨x, hx, rfl, hne⟩ | rfl
        · exact absurd (e.trans hoid.symm) hne
        · rw [hkn, if_pos rfl]; omega
theorem all_final {A : List OneD} {g : Int} {S : QS} {T : List (IdD × Int)} (h : TakeOk A g S T) (hk : ∀ a ∈ A, ∀ k ∈ a.groups, g ∈ a.groups → k ≠ g → Knows S a.id k) : ∀ o ∈ S.L, final o = true := fun o ho => by
  obtain ⟨a, ha, hs⟩ := h.same o ho
  have ho1 := h.ok.ones o ho
  unfold final
  rw [List.all_eq_true]
  intro k hkm
  simp only [decide_eq_true_eq]
  by_cases e : k = g
  · subst e; have := ho1.ownPos; omega
  · exact hk a ha k (hs.2.1 ▸ hkm) (hs.2.1 ▸ ho1.own) e o ho hs.1
theorem none_left {g : Int} {S : QS} (hn : nextS g S = none) (hf : ∀ o ∈ S.L, final o = true) : S.L = [] := by
  unfold nextS at hn
  cases ho : ord g S.L with
  | nil => have := ord_len g S.L; rw [ho] at this; exact List.length_eq_zero_iff.1 this.symm
  | cons o l =>
    have hm : o ∈ S.L := ord_mem.1 (by rw [ho]; exact List.mem_cons_self ..)
    rw [ho] at hn
    simp only [hf o hm, if_true] at hn
    cases hn
/-! ### Two groups -/
theorem key_eq {A : List OneD} (hap : Apart A) {t u : IdD × Int} (ht : ∃ a ∈ A, t = keyOf a) (hu : ∃ a ∈ A, u = keyOf a) (e : t.1 = u.1) : t = u := by
  obtain ⟨a, ha, rfl⟩ := ht
  obtain ⟨b, hb, rfl⟩ := hu
  rw [apart_eq hap ha hb e]
def AlikeAt (T U : List (IdD × Int)) (i j k : Nat) : Prop := k = 0 ∨ ∃ i0 t, (i0 < i ∨ (i0 = i ∧ k < j)) ∧ T[i0]? = some t ∧ U[k]? = some t
theorem AlikeAt.start (T U : List (IdD × Int)) : AlikeAt T U 0 0 0 := .inl rfl
theorem AlikeAt.next {T U : List (IdD × Int)} {i j k : Nat} (h : AlikeAt T U i j k) : AlikeAt T U i (j + 1) k := h.imp id fun ⟨i0, t, h1, h2⟩ => ⟨i0, t, by omega, h2⟩
theorem AlikeAt.row {T U : List (IdD × Int)} {i j k : Nat} (h : AlikeAt T U i j k) : AlikeAt T U (i + 1) 0 k := h.imp id fun ⟨i0, t, h1, h2⟩ => ⟨i0, t, by omega, h2⟩
theorem pair_at {T : List (IdD × Int)} (h : T.Pairwise keyLt) {i j : Nat} (hij : i < j) {t u : IdD × Int} (ht : T[i]? = some t) (hu : T[j]? = some u) : keyLt t u := by
  obtain ⟨h1, h2⟩ := List.getElem?_eq_some_iff.1 ht
  obtain ⟨h3, h4⟩ := List.getElem?_eq_some_iff.1 hu
  rw [← h2, ← h4]
  exact List.pairwise_iff_getElem.1 h i j h1 h3 hij
theorem AlikeAt.hit {T U : List (IdD × Int)} (hT : T.Pairwise keyLt) (hU : U.Pairwise keyLt) {i j k : Nat} (h : AlikeAt T U i j k) {t : IdD × Int} (h1 : T[i]? = some t) (h2 : U[j]? = some t) : k ≤ j ∧ AlikeAt T U i (j + 1) j := by
  refine ⟨?_, .inr ⟨i, t, .inr ⟨rfl, Nat.lt_succ_self _⟩, h1, h2⟩⟩
  rcases h with rfl | ⟨i0, u, h3 | ⟨rfl, h3⟩, h4, h5⟩
  · exact Nat.zero_le _
  · rcases Nat.lt_or_ge j k with h6 | h6
    · exact (pair_at hT h3 h4 h1).asymm (pair_at hU h6 h2 h5) |>.elim
    · exact h6
  · omega
/-! ### How they begin -/
/-- What has just begun in group g as o is a. -/
def New (g : Int) (o a : OneD) : Prop := o.id = a.id ∧ o.groups = a.groups ∧ o.kn g = a.kn g ∧ ∀ h, h ≠ g → o.kn h = 0
theorem New.same {g : Int} {o a : OneD} (h : New g o a) : Same g o a := ⟨h.1, h.2.1, h.2.2.1, fun k => by
  by_cases e : k = g
  · subst e; exact .inr h.2.2.1
  · exact .inl (h.2.2.2 k e)⟩
structure BegunOk (A : List OneD) (g : Int) (S : QS) : Prop where
  ok : QOk g S
  new : ∀ o ∈ S.L, ∃ a ∈ A, New g o a
theorem BegunOk.take {A : List OneD} {g : Int} {S : QS} (h : BegunOk A g S) : TakeOk A g S [] where
  ok := h.ok
  same := fun o ho => let ⟨a, ha, hn⟩ := h.new o ho; ⟨a, ha, hn.same⟩
  sorted := .nil
  ahead := fun _ h => by cases h
  taken := fun _ h => by cases h
/-- What may begin: its id is one, its groups rise. -/
structure MayOk (a : OneD) : Prop where
  good : goodX a.id = true
  rises : a.groups.Pairwise (· < ·)
  range : ∀ h ∈ a.groups, 0 ≤ h ∧ h < 4
/-- Group g, while its transactions begin; D: which have; n: a bound. -/
structure BegOk (A : List OneD) (g : Int) (S : QS) (D : List Bool) (n : Nat) : Prop where
  ok : QOk g S
  len : D.length = A.length
  clock : S.clock ≤ n
  count : S.L.length ≤ n
  new : ∀ o ∈ S.L, ∃ (k : Nat) (a : OneD), D[k]? = some true ∧ A[k]? = some a ∧ New g o a
  no : ∀ (k : Nat) (a : OneD), A[k]? = some a → D[k]? = some false → a.kn g = 0
  yes : ∀ (k : Nat) (a : OneD), A[k]? = some a → D[k]? = some true → g ∈ a.groups ∧ 1 ≤ a.kn g ∧ a.kn g ≤ mostS
theorem BegOk.more {A : List OneD} {g : Int} {S : QS} {D : List Bool} {n n' : Nat} (h : BegOk A g S D n) (hn : n ≤ n') : BegOk A g S D n' := ⟨h.ok, h.len, by have := h.clock; omega, Nat.le_trans h.count hn, h.new, h.no, h.yes⟩
theorem apart_idx {A : List OneD} (h : Apart A) {i j : Nat} {a b : OneD} (ha : A[i]? = some a) (hb : A[j]? = some b) (e : a.id = b.id) : i = j := by
  obtain ⟨h1, h2⟩ := List.getElem?_eq_some_iff.1 ha
  obtain ⟨h3, h4⟩ := List.getElem?_eq_some_iff.1 hb
  rcases Nat.lt_trichotomy i j with h5 | h5 | h5
  · exact absurd e (by rw [← h2, ← h4]; exact List.pairwise_iff_getElem.1 h i j h1 h3 h5)
  · exact h5
  · exact absurd e.symm (by rw [← h2, ← h4]; exact List.pairwise_iff_getElem.1 h j i h3 h1 h5)
theorem setKn_new {g h c : Int} {o a : OneD} (hg : h ≠ g) (hn : New g o a) : New g o (setKn a h c) := ⟨hn.1, hn.2.1, by show _ = if g = h then c else a.kn g; rw [if_neg (Ne.symm hg)]; exact hn.2.2.1, hn.2.2.2⟩
theorem BegOk.step {A : List OneD} {g : Int} {S : QS} {D : List Bool} {n : Nat} (h : BegOk A g S D n) (hg : 0 ≤ g ∧ g < 4) (hap : Apart A) (hn : n < 1000) {k : Nat} {a : OneD} (ha : A[k]? = some a) (hd : D[k]? = some false) (hm : g ∈ a.groups) (hmay : MayOk a) :
    beginS g S a.id a.groups = ((S.clock + 1, 0), ⟨S.clock + 1, S.L ++ [newOne g (S.clock + 1) a.id a.groups]⟩) ∧
      BegOk (A.set k (setKn a g (S.clock + 1))) g ⟨S.clock + 1, S.L ++ [newOne g (S.clock + 1) a.id a.groups]⟩ (D.set k true) (n + 1) := by
  have hno : ∀ o ∈ S.L, o.id ≠ a.id := fun o ho e => by
    obtain ⟨k', a', h1, h2, h3⟩ := h.new o ho
    have : k' = k := apart_idx hap h2 ha (h3.1.symm.trans e)
    subst this
    rw [hd] at h1; cases h1
  have hf : find S.L a.id = none := List.find?_eq_none.2 fun o ho => by simpa using hno o ho
  have hc0 := h.clock
  have hcl : S.clock < mostS := by unfold mostS; omega
  have hr : Right g a.groups := ⟨hmay.range, hmay.rises, hm⟩
  have hb : beginS g S a.id a.groups = ((S.clock + 1, 0), ⟨S.clock + 1, S.L ++ [newOne g (S.clock + 1) a.id a.groups]⟩) := by
    unfold beginS
    rw [if_pos ⟨hmay.good, hr⟩, hf]
    simp only
    rw [if_neg (by omega)]
  have hq := h.ok.beginS hg a.id a.groups
  rw [hb] at hq
  have hkA : k < A.length := (List.getElem?_eq_some_iff.1 ha).1
  have hkD : k < D.length := (List.getElem?_eq_some_iff.1 hd).1
  have h0 := h.ok.clock0
  refine ⟨hb, hq.1, by simp [h.len], by simp only; omega, by simp only [List.length_append, List.length_cons, List.length_nil]; have := h.count; omega, fun o ho => ?_, fun j b hA hD => ?_, fun j b hA hD => ?_⟩
  · rcases List.mem_append.1 ho with h1 | h1
    · obtain ⟨k', a', h2, h3, h4⟩ := h.new o h1
      have hne : k ≠ k' := fun e => by subst e; rw [hd] at h2; cases h2
      exact ⟨k', a', by rw [List.getElem?_set_ne hne]; exact h2, by rw [List.getElem?_set_ne hne]; exact h3, h4⟩
    · simp at h1; subst h1
      refine ⟨k, setKn a g (S.clock + 1), by rw [List.getElem?_set_self hkD], by rw [List.getElem?_set_self hkA], rfl, rfl, ?_, fun j hj => ?_⟩
      · show (if g = g then S.clock + 1 else 0) = if g = g then S.clock + 1 else _
        rw [if_pos rfl, if_pos rfl]
      · show (if j = g then S.clock + 1 else 0) = 0
        rw [if_neg hj]
  · by_cases e : k = j
    · subst e; rw [List.getElem?_set_self hkD] at hD; cases hD
    · rw [List.getElem?_set_ne e] at hA hD
      exact h.no j b hA hD
  · by_cases e : k = j
    · subst e; rw [List.getElem?_set_self hkA] at hA; cases hA
      refine ⟨hm, ?_⟩
      show 1 ≤ (if g = g then S.clock + 1 else _) ∧ (if g = g then S.clock + 1 else _) ≤ mostS
      rw [if_pos rfl]; omega
    · rw [List.getElem?_set_ne e] at hA hD
      exact h.yes j b hA hD
end Go.Proofs.Ytamjdghjaimihaa
