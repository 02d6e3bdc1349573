/- A group's queue, as the chapter has it: plain laws, no program in sight. Conditions: each law's own. -/
namespace Go.Proofs.Ytamjdghjaimihaa

structure IdD where
  s : Int
  q : Int
  deriving DecidableEq, Inhabited

structure OneD where
  id : IdD
  groups : List Int
  kn : Int → Int
instance : Inhabited OneD := ⟨⟨default, [], fun _ => 0⟩⟩

def lessId (a b : IdD) : Bool := decide (a.s < b.s) || (a.s == b.s && decide (a.q < b.q))
def mostS : Int := 4611686018427387904
def final (o : OneD) : Bool := o.groups.all fun h => decide (o.kn h ≠ 0)
def topS (o : OneD) : Int := max (o.kn 0) (max (o.kn 1) (max (o.kn 2) (o.kn 3)))
def stampS (g : Int) (o : OneD) : Int := if final o then topS o else o.kn g

def LtO (g : Int) (a b : OneD) : Prop := stampS g a < stampS g b ∨ (stampS g a = stampS g b ∧ (a.id.s < b.id.s ∨ (a.id.s = b.id.s ∧ a.id.q < b.id.q)))
instance (g : Int) (a b : OneD) : Decidable (LtO g a b) := by unfold LtO; infer_instance
theorem LtO.trans {g : Int} {a b c : OneD} (h : LtO g a b) (h2 : LtO g b c) : LtO g a c := by unfold LtO at *; omega
theorem LtO.irrefl {g : Int} {a : OneD} : ¬ LtO g a a := by unfold LtO; omega
theorem LtO.asymm {g : Int} {a b : OneD} (h : LtO g a b) : ¬ LtO g b a := fun h2 => LtO.irrefl (h.trans h2)
theorem LtO.total {g : Int} {a b : OneD} (hn : a.id ≠ b.id) (h : ¬ LtO g b a) : LtO g a b := by
  have : ¬ (a.id.s = b.id.s ∧ a.id.q = b.id.q) := fun ⟨h1, h2⟩ => hn (by cases hx : a.id; cases hy : b.id; simp_all)
  unfold LtO at *; omega

/-! ### Sorted lists -/
def Sorted (g : Int) (l : List OneD) : Prop := l.Pairwise (LtO g)
def Apart (l : List OneD) : Prop := l.Pairwise fun a b => a.id ≠ b.id
theorem Sorted.apart {g : Int} {l : List OneD} (h : Sorted g l) (_ : True) : l.Pairwise fun a b => ¬ LtO g b a := h.imp fun h => h.asymm
theorem sorted_unique {g : Int} : ∀ {L M : List OneD}, L.Perm M → Sorted g L → Sorted g M → L = M
  | [], M, h, _, _ => (List.nil_perm.1 h).symm ▸ rfl
  | a :: L, [], h, _, _ => by have := h.length_eq; simp at this
  | a :: L, b :: M, h, h1, h2 => by
    unfold Sorted at h1 h2
    rw [List.pairwise_cons] at h1 h2
    have hab : a = b := by
      rcases List.mem_cons.1 (h.mem_iff.1 (List.mem_cons_self ..)) with h3 | h3
      · exact h3
      · rcases List.mem_cons.1 (h.mem_iff.2 (List.mem_cons_self (a := b) (l := M))) with h4 | h4
        · exact h4.symm
        · exact absurd ((h2.1 a h3).trans (h1.1 b h4)) LtO.irrefl
    subst hab
    rw [sorted_unique (h.cons_inv) h1.2 h2.2]
def leO (g : Int) (a b : OneD) : Bool := !decide (LtO g b a)
def ord (g : Int) (L : List OneD) : List OneD := L.mergeSort (leO g)
theorem ord_perm (g : Int) (L : List OneD) : (ord g L).Perm L := List.mergeSort_perm _ _
theorem ord_sorted (g : Int) {L : List OneD} (h : Apart L) : Sorted g (ord g L) := by
  have h1 := List.pairwise_mergeSort (le := leO g) (fun a b c h1 h2 => by
    simp only [leO, Bool.not_eq_true', decide_eq_false_iff_not] at *
    unfold LtO at *; omega) (fun a b => by
    simp only [leO, Bool.or_eq_true, Bool.not_eq_true', decide_eq_false_iff_not]
    by_cases h : LtO g b a
    · exact .inr h.asymm
    · exact .inl h) L
  have h2 : (ord g L).Pairwise fun a b => a.id ≠ b.id := (ord_perm g L).pairwise_iff (fun h e => h e.symm) |>.2 h
  refine (List.Pairwise.and h2 h1).imp ?_
  rintro a b ⟨h3, h4⟩
  simp only [leO, Bool.not_eq_true', decide_eq_false_iff_not] at h4
  exact LtO.total h3 h4
theorem ord_eq {g : Int} {L M : List OneD} (h : Apart L) (hp : M.Perm L) (hs : Sorted g M) : M = ord g L :=
  sorted_unique (hp.trans (ord_perm g L).symm) hs (ord_sorted g h)
theorem Apart.perm {L M : List OneD} (h : Apart L) (hp : M.Perm L) : Apart M := (hp.pairwise_iff (fun h e => h e.symm)).2 h
theorem ord_len (g : Int) (L : List OneD) : (ord g L).length = L.length := (ord_perm g L).length_eq
theorem ord_mem {g : Int} {L : List OneD} {o : OneD} : o ∈ ord g L ↔ o ∈ L := (ord_perm g L).mem_iff

/-! ### The queue -/
structure QS where
  clock : Int
  L : List OneD
structure OneOk (g clock : Int) (o : OneD) : Prop where
  rises : o.groups.Pairwise (· < ·)
  range : ∀ h ∈ o.groups, 0 ≤ h ∧ h < 4
  own : g ∈ o.groups
  known : ∀ h, o.kn h ≠ 0 → h ∈ o.groups
  small : ∀ h, 0 ≤ o.kn h ∧ o.kn h ≤ mostS
  ownPos : 1 ≤ o.kn g
  ownLe : o.kn g ≤ clock
  top : stampS g o ≤ clock
structure QOk (g : Int) (S : QS) : Prop where
  apart : Apart S.L
  ones : ∀ o ∈ S.L, OneOk g S.clock o
  clock0 : 0 ≤ S.clock
  clock1 : S.clock ≤ mostS
theorem QOk.start (g : Int) : QOk g ⟨0, []⟩ := ⟨.nil, by simp, by simp, by simp [mostS]⟩
def find (L : List OneD) (id : IdD) : Option OneD := L.find? fun o => decide (o.id = id)
def goodX (x : IdD) : Bool := decide (1 ≤ x.s) && decide (x.s ≤ 8) && (decide (1 ≤ x.q) && decide (x.q ≤ 1048576))
def Right (g : Int) (groups : List Int) : Prop := (∀ h ∈ groups, 0 ≤ h ∧ h < 4) ∧ groups.Pairwise (· < ·) ∧ g ∈ groups
instance (g : Int) (groups : List Int) : Decidable (Right g groups) := by unfold Right; infer_instance
def newOne (g c : Int) (id : IdD) (groups : List Int) : OneD := ⟨id, groups, fun h => if h = g then c else 0⟩
def beginS (g : Int) (S : QS) (id : IdD) (groups : List Int) : (Int × Int) × QS :=
  if goodX id = true ∧ Right g groups then
    match find S.L id with
    | some o => ((o.kn g, 11), S)
    | none => if S.clock ≥ mostS then ((0, 7), S) else ((S.clock + 1, 0), ⟨S.clock + 1, S.L ++ [newOne g (S.clock + 1) id groups]⟩)
  else ((0, 2), S)
def setKn (o : OneD) (h t : Int) : OneD := { o with kn := fun x => if x = h then t else o.kn x }
def put (L : List OneD) (o : OneD) : List OneD := L.map fun x => if x.id = o.id then o else x
def learnS (g : Int) (S : QS) (id : IdD) (h t : Int) : Int × QS :=
  match find S.L id with
  | none => (6, S)
  | some o =>
    if h = g ∨ h ∉ o.groups ∨ t < 1 ∨ mostS < t then (1, S)
    else if o.kn h ≠ 0 then (0, S)
    else
      let o' := setKn o h t
      (0, ⟨if final o' then max S.clock (stampS g o') else S.clock, put S.L o'⟩)
def nextS (g : Int) (S : QS) : Option (IdD × Int) :=
  match ord g S.L with
  | [] => none
  | o :: _ => if final o then some (o.id, stampS g o) else none
def doneS (g : Int) (S : QS) (id : IdD) : Bool × QS :=
  match nextS g S with
  | none => (false, S)
  | some x => if x.1 = id then (true, ⟨S.clock, S.L.filter fun o => decide (o.id ≠ id)⟩) else (false, S)
def safeS (g : Int) (S : QS) : Int :=
  match ord g S.L with
  | [] => S.clock
  | o :: _ => stampS g o - 1
def ownS (g : Int) (S : QS) (id : IdD) : Option Int := (find S.L id).map fun o => o.kn g
def waitingS (g : Int) (S : QS) : List IdD := (ord g S.L).map (·.id)
end Go.Proofs.Ytamjdghjaimihaa
