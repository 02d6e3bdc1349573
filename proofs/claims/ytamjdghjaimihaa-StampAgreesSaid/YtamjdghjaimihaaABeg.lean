/- Plain laws for StampAgrees: how all begin, group by group. No program in sight. Conditions: each law's own. -/
import Derived.Test.YtamjdghjaimihaaALaw
namespace Go.Proofs.Ytamjdghjaimihaa

/-- The id of number j. -/
def idN (j : Nat) : IdD := ⟨1 + (j : Int) % 8, 1 + (j : Int) / 8⟩
theorem idN_inj {i j : Nat} (h : idN i = idN j) : i = j := by
  unfold idN at h
  injection h with h1 h2
  omega
theorem idN_good {j : Nat} (h : j < 20) : goodX (idN j) = true := by
  unfold goodX idN
  simp only [Bool.and_eq_true, decide_eq_true_eq]
  omega
/-- Those that were made of the first n. -/
structure MadeOk (A : List OneD) (n : Nat) : Prop where
  ids : ∀ a ∈ A, ∃ j, j < n ∧ a.id = idN j
  apart : Apart A
  may : ∀ a ∈ A, MayOk a
  none : ∀ a ∈ A, ∀ h, a.kn h = 0
  few : A.length ≤ n
theorem MadeOk.start : MadeOk [] 0 where
  ids := fun _ h => by cases h
  apart := List.Pairwise.nil
  may := fun _ h => by cases h
  none := fun _ h => by cases h
  few := Nat.le_refl _
theorem MadeOk.skip {A : List OneD} {n : Nat} (h : MadeOk A n) : MadeOk A (n + 1) := ⟨fun a ha => let ⟨j, hj, e⟩ := h.ids a ha; ⟨j, by omega, e⟩, h.apart, h.may, h.none, by have := h.few; omega⟩
theorem MadeOk.push {A : List OneD} {n : Nat} (h : MadeOk A n) (hn : n < 20) {groups : List Int} (hr : groups.Pairwise (· < ·)) (hg : ∀ x ∈ groups, 0 ≤ x ∧ x < 4) : MadeOk (A ++ [⟨idN n, groups, fun _ => 0⟩]) (n + 1) where
  ids := fun a ha => by
    rcases List.mem_append.1 ha with h1 | h1
    · obtain ⟨j, hj, e⟩ := h.ids a h1; exact ⟨j, by omega, e⟩
    · simp at h1; subst h1; exact ⟨n, by omega, rfl⟩
  apart := by
    unfold Apart
    rw [List.pairwise_append]
    refine ⟨h.apart, by simp, fun a ha b hb e => ?_⟩
    simp at hb; subst hb
    obtain ⟨j, hj, ej⟩ := h.ids a ha
    have := idN_inj (ej.symm.trans e)
    omega
  may := fun a ha => by
    rcases List.mem_append.1 ha with h1 | h1
    · exact h.may a h1
    · simp at h1; subst h1; exact ⟨idN_good hn, hr, hg⟩
  none := fun a ha k => by
    rcases List.mem_append.1 ha with h1 | h1
    · exact h.none a h1 k
    · simp at h1; subst h1; rfl
  few := by have := h.few; simp; omega
/-- All, when the first g groups have begun theirs. -/
structure Upto (A : List OneD) (g : Nat) : Prop where
  apart : Apart A
  small : A.length ≤ 20
  may : ∀ a ∈ A, MayOk a
  known : ∀ a ∈ A, ∀ h : Int, a.kn h ≠ 0 → h ∈ a.groups ∧ 0 ≤ h ∧ h < g
  pos : ∀ a ∈ A, ∀ h : Int, h < g → h ∈ a.groups → 1 ≤ a.kn h ∧ a.kn h ≤ mostS
theorem MadeOk.upto {A : List OneD} {n : Nat} (h : MadeOk A n) (hn : n ≤ 20) : Upto A 0 := ⟨h.apart, by have := h.few; omega, h.may, fun a ha k hk => absurd (h.none a ha k) hk, fun a ha k hk hm => by have := (h.may a ha).range k hm; omega⟩
theorem Upto.all {A : List OneD} (h : Upto A 4) : ∀ a ∈ A, AllOk a := fun a ha => ⟨fun k hk => (h.known a ha k hk).1, fun k hk => h.pos a ha k (by have := (h.may a ha).range k hk; omega) hk⟩
/-- While group g begins its own: D: which have; those of lesser groups stand. -/
structure Midst (A : List OneD) (g : Nat) (S : QS) (D : List Bool) (n : Nat) : Prop where
  beg : BegOk A g S D n
  apart : Apart A
  small : A.length ≤ 20
  may : ∀ a ∈ A, MayOk a
  known : ∀ a ∈ A, ∀ h : Int, h ≠ g → a.kn h ≠ 0 → h ∈ a.groups ∧ 0 ≤ h ∧ h < g
  pos : ∀ a ∈ A, ∀ h : Int, h < g → h ∈ a.groups → 1 ≤ a.kn h ∧ a.kn h ≤ mostS
theorem Upto.midst {A : List OneD} {g : Nat} (h : Upto A g) : Midst A g ⟨0, []⟩ (List.replicate A.length false) 0 where
  beg := by
    refine ⟨QOk.start g, by simp, by simp, by simp, fun o ho => (by cases ho), fun k a ha _ => ?_, fun k a ha hd => ?_⟩
    · by_cases e : a.kn g = 0
      · exact e
      · have := (h.known a (List.mem_of_getElem? ha) g e).2.2; omega
    · rw [List.getElem?_replicate] at hd
      split at hd <;> simp at hd
  apart := h.apart
  small := h.small
  may := h.may
  known := fun a ha k hk hn => h.known a ha k hn
  pos := h.pos
theorem Midst.more {A : List OneD} {g : Nat} {S : QS} {D : List Bool} {n n' : Nat} (h : Midst A g S D n) (hn : n ≤ n') : Midst A g S D n' := ⟨h.beg.more hn, h.apart, h.small, h.may, h.known, h.pos⟩
/-- Which one comes of a one that is set. -/
theorem set_mem {α : Type} {l : List α} {k : Nat} {a b x : α} (ha : l[k]? = some a) (h : x ∈ l.set k b) : x = b ∨ x ∈ l := by
  obtain ⟨i, hi⟩ := List.getElem?_of_mem h
  by_cases e : k = i
  · subst e
    rw [List.getElem?_set_self (List.getElem?_eq_some_iff.1 ha).1] at hi
    cases hi; exact .inl rfl
  · rw [List.getElem?_set_ne e] at hi
    exact .inr (List.mem_of_getElem? hi)
theorem apart_set {A : List OneD} (h : Apart A) {k : Nat} {a b : OneD} (ha : A[k]? = some a) (e : b.id = a.id) : Apart (A.set k b) := by
  have h1 : (A.set k b).map (·.id) = A.map (·.id) := by
    rw [List.map_set]
    refine List.ext_getElem? fun i => ?_
    by_cases hik : k = i
    · subst hik
      have hl : k < (A.map (·.id)).length := by simpa using (List.getElem?_eq_some_iff.1 ha).1
      rw [List.getElem?_set_self hl, List.getElem?_map, ha, e]; rfl
    · rw [List.getElem?_set_ne hik]
  unfold Apart at *
  have h2 : (A.map (·.id)).Pairwise (· ≠ ·) := List.pairwise_map.2 h
  rw [← h1] at h2
  exact List.pairwise_map.1 h2
theorem Midst.step {A : List OneD} {g : Nat} {S : QS} {D : List Bool} {n : Nat} (h : Midst A g S D n) (hg : g < 4) (hn : n < 1000) {k : Nat} {a : OneD} (ha : A[k]? = some a) (hd : D[k]? = some false) (hm : (g : Int) ∈ a.groups) :
    beginS g S a.id a.groups = ((S.clock + 1, 0), ⟨S.clock + 1, S.L ++ [newOne g (S.clock + 1) a.id a.groups]⟩) ∧
      Midst (A.set k (setKn a g (S.clock + 1))) g ⟨S.clock + 1, S.L ++ [newOne g (S.clock + 1) a.id a.groups]⟩ (D.set k true) (n + 1) := by
  have ham := List.mem_of_getElem? ha
  obtain ⟨h1, h2⟩ := h.beg.step (by omega) h.apart hn ha hd hm (h.may a ham)
  have hkn : ∀ j : Int, j ≠ g → (setKn a g (S.clock + 1)).kn j = a.kn j := fun j hj => if_neg hj
  refine ⟨h1, h2, apart_set h.apart ha rfl, by simpa using h.small, fun b hb => ?_, fun b hb j hj hj0 => ?_, fun b hb j hj hjm => ?_⟩
  · rcases set_mem ha hb with rfl | hb
    · exact ⟨(h.may a ham).good, (h.may a ham).rises, (h.may a ham).range⟩
    · exact h.may b hb
  · rcases set_mem ha hb with rfl | hb
    · rw [hkn j hj] at hj0; exact h.known a ham j hj hj0
    · exact h.known b hb j hj hj0
  · rcases set_mem ha hb with rfl | hb
    · rw [hkn j (by omega)]; exact h.pos a ham j hj hjm
    · exact h.pos b hb j hj hjm
theorem Midst.done {A : List OneD} {g : Nat} {S : QS} {D : List Bool} {n : Nat} (h : Midst A g S D n) (hall : ∀ (k : Nat) (a : OneD), A[k]? = some a → (g : Int) ∈ a.groups → D[k]? = some true) : Upto A (g + 1) ∧ BegunOk A g S := by
  have hD : ∀ (k : Nat) (a : OneD), A[k]? = some a → ∃ b, D[k]? = some b := fun k a ha => by
    have := (List.getElem?_eq_some_iff.1 ha).1
    rw [← h.beg.len] at this
    exact ⟨_, List.getElem?_eq_getElem this⟩
  refine ⟨⟨h.apart, h.small, h.may, fun a ha j hj => ?_, fun a ha j hj hm => ?_⟩, h.beg.ok, fun o ho => ?_⟩
  · by_cases e : j = (g : Int)
    · subst e
      obtain ⟨k, hk⟩ := List.getElem?_of_mem ha
      obtain ⟨b, hb⟩ := hD k a hk
      cases b with
      | false => exact absurd (h.beg.no k a hk hb) hj
      | true => exact ⟨(h.beg.yes k a hk hb).1, by omega, by omega⟩
    · obtain ⟨h1, h2, h3⟩ := h.known a ha j e hj
      exact ⟨h1, h2, by omega⟩
  · by_cases e : j = (g : Int)
    · subst e
      obtain ⟨k, hk⟩ := List.getElem?_of_mem ha
      exact (h.beg.yes k a hk (hall k a hk hm)).2
    · exact h.pos a ha j (by omega) hm
  · obtain ⟨k, a, -, ha, hn⟩ := h.beg.new o ho
    exact ⟨a, List.mem_of_getElem? ha, hn⟩
theorem BegunOk.set {A : List OneD} {h : Int} {S : QS} (hb : BegunOk A h S) {k : Nat} {a : OneD} {g c : Int} (ha : A[k]? = some a) (hg : g ≠ h) : BegunOk (A.set k (setKn a g c)) h S := ⟨hb.ok, fun o ho => by
  obtain ⟨b, hbm, hn⟩ := hb.new o ho
  obtain ⟨i, hi⟩ := List.getElem?_of_mem hbm
  by_cases e : k = i
  · subst e
    rw [ha] at hi; cases hi
    exact ⟨_, List.mem_of_getElem? (List.getElem?_set_self (List.getElem?_eq_some_iff.1 ha).1), setKn_new hg hn⟩
  · exact ⟨b, List.mem_of_getElem? (by rw [List.getElem?_set_ne e]; exact hi), hn⟩⟩
end Go.Proofs.Ytamjdghjaimihaa
