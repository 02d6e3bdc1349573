/- One is learnt: what lies in memory. Conditions: each law's own. -/
import Derived.Test.YtamjdghjaimihaaQBegin
namespace Go.Proofs.Ytamjdghjaimihaa
open Go.ChangeShapes Go.WideShapes Go.ChangeAt Go.RowKit
open Go.ChangeMaps (setBlock)

/-! ### Plain -/
theorem filter_ne_len {g : Int} : ∀ {l : List Int}, l.Pairwise (· < ·) → g ∈ l → (l.filter fun h => decide (h ≠ g)).length + 1 = l.length
  | [], _, h => by cases h
  | a :: l, hr, h => by
    rw [List.pairwise_cons] at hr
    by_cases e : a = g
    · subst e
      have : l.filter (fun h => decide (h ≠ a)) = l := List.filter_eq_self.2 fun x hx => by
        have := hr.1 x hx
        simp; omega
      rw [List.filter_cons]
      simp only [ne_eq, not_true_eq_false, decide_false, Bool.false_eq_true, if_false]
      have h2 := congrArg List.length this
      simpa using h2
    · have hl : g ∈ l := by
        rcases List.mem_cons.1 h with h1 | h1
        · exact absurd h1.symm e
        · exact h1
      have := filter_ne_len hr.2 hl
      rw [List.filter_cons]
      simp only [ne_eq, e, not_false_eq_true, decide_true, if_true, List.length_cons]
      simpa using this
theorem rising_nodup {l : List Int} (h : l.Pairwise (· < ·)) : l.Nodup := h.imp fun h => by omega
/-- All is known just if as many are known as there are groups but for the own one. -/
theorem final_count {g : Int} {o : OneD} {l : IEnts} (hr : o.groups.Pairwise (· < ·)) (hg : g ∈ o.groups) (hk : (l.map (·.1)).Nodup) (hv : ∀ h, h ≠ g → valI l h = if o.kn h = 0 then none else some (o.kn h)) (hno : valI l g = none) (hkn : ∀ h, o.kn h ≠ 0 → h ∈ o.groups) (hgp : o.kn g ≠ 0) :
    final o = decide ((l.length : Int) = (o.groups.length : Int) - 1) := by
  have hp : (l.map (·.1)).Perm ((o.groups.filter fun h => decide (h ≠ g)).filter fun h => decide (o.kn h ≠ 0)) := by
    refine (List.perm_ext_iff_of_nodup hk ((rising_nodup hr).filter _ |>.filter _)).2 fun h => ?_
    rw [List.mem_filter, List.mem_filter]
    simp only [decide_eq_true_eq]
    constructor
    · intro hm
      obtain ⟨x, hx, rfl⟩ := List.mem_map.1 hm
      have hx1 := valI_of_mem hk hx
      have hxg : x.1 ≠ g := fun e => by rw [e, hno] at hx1; cases hx1
      have h2 := hv x.1 hxg
      rw [hx1] at h2
      by_cases h0 : o.kn x.1 = 0
      · rw [if_pos h0] at h2; cases h2
      · exact ⟨⟨hkn _ h0, hxg⟩, h0⟩
    · rintro ⟨⟨h1, h2⟩, h3⟩
      have h4 := hv h h2
      rw [if_neg h3] at h4
      obtain ⟨x, hx, hx1, -⟩ := valI_mem h4
      exact hx1 ▸ List.mem_map_of_mem hx
  have hl := hp.length_eq
  rw [List.length_map] at hl
  have hg1 := filter_ne_len hr hg
  rw [Bool.eq_iff_iff, decide_eq_true_eq]
  unfold final
  rw [List.all_eq_true]
  constructor
  · intro h
    have h2 : ((o.groups.filter fun h => decide (h ≠ g)).filter fun h => decide (o.kn h ≠ 0)) = o.groups.filter fun h => decide (h ≠ g) := List.filter_eq_self.2 fun x hx => h x (List.mem_filter.1 hx).1
    rw [h2] at hl
    omega
  · intro h x hx
    have h2 : ((o.groups.filter fun h => decide (h ≠ g)).filter fun h => decide (o.kn h ≠ 0)).length = (o.groups.filter fun h => decide (h ≠ g)).length := by omega
    rw [List.length_filter_eq_length_iff] at h2
    by_cases e : x = g
    · rw [e]; simpa using hgp
    · exact h2 x (List.mem_filter.2 ⟨hx, by simpa using e⟩)
theorem topS_le {g c : Int} {o : OneD} (h : ∀ k, o.kn k ≤ c) : stampS g o ≤ c := by
  unfold stampS topS
  have := h 0; have := h 1; have := h 2; have := h 3; have := h g
  split <;> omega
theorem setKn_id (o : OneD) (h t : Int) : (setKn o h t).id = o.id := rfl
theorem setKn_ok {g c : Int} {o : OneD} (h : OneOk g c o) {k t : Int} (hk : k ≠ g) (hm : k ∈ o.groups) (ht1 : 1 ≤ t) (ht2 : t ≤ mostS) {c' : Int} (hc : c ≤ c') (hs : stampS g (setKn o k t) ≤ c') : OneOk g c' (setKn o k t) := by
  have hkg : (setKn o k t).kn g = o.kn g := by show (if g = k then t else o.kn g) = _; rw [if_neg (Ne.symm hk)]
  refine ⟨h.rises, h.range, h.own, fun x hx => ?_, fun x => ?_, by rw [hkg]; exact h.ownPos, by rw [hkg]; exact Int.le_trans h.ownLe hc, hs⟩
  · by_cases e : x = k
    · rw [e]; exact hm
    · refine h.known x ?_
      have : (setKn o k t).kn x = o.kn x := by show (if x = k then t else o.kn x) = _; rw [if_neg e]
      rw [← this]; exact hx
  · show 0 ≤ (if x = k then t else o.kn x) ∧ (if x = k then t else o.kn x) ≤ mostS
    split
    · omega
    · exact h.small x
def clockL (g : Int) (S : QS) (o' : OneD) : Int := if final o' then max S.clock (stampS g o') else S.clock
theorem clockL_ge (g : Int) (S : QS) (o' : OneD) : S.clock ≤ clockL g S o' := by unfold clockL; split <;> omega
theorem stamp_clockL {g : Int} {S : QS} {o : OneD} (h : OneOk g S.clock o) {k t : Int} (hk : k ≠ g) : stampS g (setKn o k t) ≤ clockL g S (setKn o k t) := by
  have hkg : (setKn o k t).kn g = o.kn g := by show (if g = k then t else o.kn g) = _; rw [if_neg (Ne.symm hk)]
  unfold clockL
  cases hf : final (setKn o k t) with
  | true => simp only [if_true]; omega
  | false =>
    unfold stampS
    rw [hf]
    simp only [Bool.false_eq_true, if_false]
    rw [hkg]; exact h.ownLe
theorem setKn_small {g c : Int} {o : OneD} (h : OneOk g c o) {k t : Int} (ht2 : t ≤ mostS) : ∀ x, (setKn o k t).kn x ≤ mostS := fun x => by
  show (if x = k then t else o.kn x) ≤ mostS
  split
  · exact ht2
  · exact (h.small x).2
theorem put_ids (L : List OneD) (o : OneD) : (put L o).map (·.id) = L.map (·.id) := by
  unfold put
  rw [List.map_map]
  refine List.map_congr_left fun x _ => ?_
  simp only [Function.comp]
  split
  · rename_i h; exact h.symm
  · rfl
theorem apart_ids {L L' : List OneD} (h : L'.map (·.id) = L.map (·.id)) (ha : Apart L) : Apart L' := by
  unfold Apart at *
  have h1 : (L.map (·.id)).Pairwise (· ≠ ·) := by rw [List.pairwise_map]; exact ha
  rw [← h, List.pairwise_map] at h1
  exact h1
theorem QOk.learn {g : Int} {S : QS} (h : QOk g S) {o : OneD} (ho : o ∈ S.L) {k t : Int} (hk : k ≠ g) (hm : k ∈ o.groups) (ht1 : 1 ≤ t) (ht2 : t ≤ mostS) : QOk g ⟨clockL g S (setKn o k t), put S.L (setKn o k t)⟩ := by
  have hge := clockL_ge g S (setKn o k t)
  have h0 := h.clock0
  refine ⟨apart_ids (put_ids _ _) h.apart, fun z hz => ?_, by simp only; omega, ?_⟩
  · unfold put at hz
    obtain ⟨x, hx, rfl⟩ := List.mem_map.1 hz
    split
    · exact setKn_ok (h.ones o ho) hk hm ht1 ht2 hge (stamp_clockL (h.ones o ho) hk)
    · exact (h.ones x hx).clock hge
  · have h1 := h.clock1
    have h2 : stampS g (setKn o k t) ≤ mostS := topS_le (setKn_small (h.ones o ho) ht2)
    simp only [clockL]; split <;> omega

/-! ### In memory -/
/-- One that is told of k's stamp t. -/
def tellM (y : MemO) (k t : Int) : MemO := { y with o := setKn y.o k t, l := y.l ++ [(k, t, y.mc)], mc := y.mc + 1 }
section
variable {w : World} {x : Nat} {g : Int} {S : QS} {M : List MemO} {v : Value} {B : Nat}
theorem OneAt.told {y : MemO} {c : Int} (h : OneAt w g B y) (ok : OneOk g c y.o) {k t : Int} (hk : k ≠ g) (hm : k ∈ y.o.groups) (ht1 : 1 ≤ t) (h0 : y.o.kn k = 0) :
    OneAt ((setBlock w y.m (.map (entsI (y.l ++ [(k, t, y.mc)])) (y.mc + 1))).setCell ⟨y.p, 5, none⟩ (.bool (final (setKn y.o k t)))) g B (tellM y k t) ∧ final (setKn y.o k t) = decide (((y.l ++ [(k, t, y.mc)]).length : Int) = (y.o.groups.length : Int) - 1) := by
  have hkg : (setKn y.o k t).kn g = y.o.kn g := by show (if g = k then t else y.o.kn g) = _; rw [if_neg (Ne.symm hk)]
  have hnone : valI y.l k = none := by rw [h.vals k hk, if_pos h0]
  have hks := valI_none hnone
  have hpm : y.p ≠ y.m := fun e => by
    have h1 := h.box; have h2 := h.map
    unfold VarAt at h1; unfold IMap at h2
    rw [e, h2] at h1
    injection h1 with h1; cases h1
  have hvals : ∀ x, x ≠ g → valI (y.l ++ [(k, t, y.mc)]) x = if (setKn y.o k t).kn x = 0 then none else some ((setKn y.o k t).kn x) := fun x hx => by
    rw [valI_append _ _ _ _ hks]
    show _ = if (if x = k then t else y.o.kn x) = 0 then none else some (if x = k then t else y.o.kn x)
    by_cases e : x = k
    · rw [if_pos e, if_pos e, if_neg (by omega)]
    · rw [if_neg e, if_neg e]; exact h.vals x hx
  have hnoOwn : valI (y.l ++ [(k, t, y.mc)]) g = none := by rw [valI_append _ _ _ _ hks, if_neg (Ne.symm hk)]; exact h.noOwn
  have hfr := h.fresh.push hks (v := t)
  have hkn : ∀ x, (setKn y.o k t).kn x ≠ 0 → x ∈ (setKn y.o k t).groups := fun x hx => by
    by_cases e : x = k
    · rw [e]; exact hm
    · refine ok.known x ?_
      have : (setKn y.o k t).kn x = y.o.kn x := by show (if x = k then t else y.o.kn x) = _; rw [if_neg e]
      rw [← this]; exact hx
  have hfin := final_count (o := setKn y.o k t) ok.rises ok.own hfr.keys hvals hnoOwn hkn (by rw [hkg]; have := ok.ownPos; omega)
  refine ⟨⟨?_, ?_, ?_, hfr, hvals, hnoOwn, h.lowP, h.lowM⟩, hfin⟩
  · have hb : VarAt (setBlock w y.m (.map (entsI (y.l ++ [(k, t, y.mc)])) (y.mc + 1))) y.p 84 (encOne y.o.id.s y.o.id.q y.gs (y.o.kn g) (.map (some y.m)) (final y.o)) := by
      unfold VarAt setBlock
      rw [Array.getElem?_setIfInBounds_ne (Ne.symm hpm)]
      exact h.box
    have h2 := hb.set 5 (.bool (final (setKn y.o k t)))
    show VarAt _ y.p 84 (encOne y.o.id.s y.o.id.q y.gs ((setKn y.o k t).kn g) (.map (some y.m)) (final (setKn y.o k t)))
    rw [hkg]
    exact h2
  · show World.ownsRow _ B 3 1 y.gs y.o.groups.length (y.o.groups.map (Value.int .i64))
    obtain ⟨a1, a2⟩ := h.row
    refine ⟨a1, a2.imp id fun ⟨j, cap, cur, a, b, c, d⟩ => ⟨j, cap, cur, a, b, ?_, d⟩⟩
    have hjm : j ≠ y.m := fun e => by
      have h2 := h.map; unfold IMap at h2
      rw [e, h2] at c; injection c with c; cases c
    have hjp : j ≠ y.p := fun e => by
      have h2 := h.box; unfold VarAt at h2
      rw [e, h2] at c; injection c with c; cases c
    rw [Below.heap_setCell _ _ _ j (by simpa using hjp)]
    unfold setBlock
    simp only
    rw [Array.getElem?_setIfInBounds_ne (Ne.symm hjm)]
    exact c
  · show IMap _ y.m (y.l ++ [(k, t, y.mc)]) (y.mc + 1)
    have h2 : IMap (setBlock w y.m (.map (entsI (y.l ++ [(k, t, y.mc)])) (y.mc + 1))) y.m (y.l ++ [(k, t, y.mc)]) (y.mc + 1) := h.map.set
    unfold IMap at h2 ⊢
    rw [Below.heap_setCell _ _ _ y.m (by simpa using Ne.symm hpm)]
    exact h2
theorem QAt.same (h : QAt w x g S M v B) {y z : MemO} (hy : y ∈ M) (hz : z ∈ M) (he : z.o.id = y.o.id) : z = y := by
  have hap : Apart (M.map (·.o)) := by rw [h.lst]; exact h.ok.apart.perm (ord_perm g S.L)
  unfold Apart at hap
  rw [List.pairwise_map] at hap
  obtain ⟨i, hi⟩ := List.getElem?_of_mem hy
  obtain ⟨j, hj⟩ := List.getElem?_of_mem hz
  obtain ⟨hi1, hi2⟩ := List.getElem?_eq_some_iff.1 hi
  obtain ⟨hj1, hj2⟩ := List.getElem?_eq_some_iff.1 hj
  rw [List.pairwise_iff_getElem] at hap
  rcases Nat.lt_trichotomy i j with h1 | h1 | h1
  · have := hap i j hi1 hj1 h1
    rw [hi2, hj2] at this; exact absurd he.symm this
  · subst h1; rw [hi] at hj; exact (Option.some.inj hj).symm
  · have := hap j i hj1 hi1 h1
    rw [hi2, hj2] at this; exact absurd he this
theorem QAt.pp (h : QAt w x g S M v B) {y z : MemO} (hy : y ∈ M) (hz : z ∈ M) (hn : z ≠ y) : z.p ≠ y.p := fun e => by
  have h1 := (h.ones y hy).box; have h2 := (h.ones z hz).box
  unfold VarAt at h1 h2
  rw [e, h1] at h2
  injection h2 with h2; injection h2 with h2 h3
  have h4 : encOne y.o.id.s y.o.id.q y.gs (y.o.kn g) (.map (some y.m)) (final y.o) = encOne z.o.id.s z.o.id.q z.gs (z.o.kn g) (.map (some z.m)) (final z.o) := by simpa using h2
  unfold encOne at h4
  refine hn (h.same hy hz ?_)
  obtain ⟨⟨⟨a, b⟩, c, d⟩, _⟩ := y
  obtain ⟨⟨⟨a', b'⟩, c', d'⟩, _⟩ := z
  simp at h4 ⊢
  exact ⟨h4.1.symm, h4.2.1.symm⟩
theorem QAt.mm (h : QAt w x g S M v B) {y z : MemO} (hy : y ∈ M) (hz : z ∈ M) (hn : z ≠ y) : z.m ≠ y.m := fun e => by
  have hap := h.maps
  obtain ⟨i, hi⟩ := List.getElem?_of_mem hy
  obtain ⟨j, hj⟩ := List.getElem?_of_mem hz
  obtain ⟨hi1, hi2⟩ := List.getElem?_eq_some_iff.1 hi
  obtain ⟨hj1, hj2⟩ := List.getElem?_eq_some_iff.1 hj
  rw [List.pairwise_iff_getElem] at hap
  rcases Nat.lt_trichotomy i j with h1 | h1 | h1
  · have := hap i j hi1 hj1 h1
    rw [hi2, hj2] at this; exact this e.symm
  · subst h1; rw [hi] at hj; exact hn (Option.some.inj hj).symm
  · have := hap j i hj1 hi1 h1
    rw [hi2, hj2] at this; exact this e
theorem OneAt.kinds {y z : MemO} (hy : OneAt w g B y) (hz : OneAt w g B z) : z.p ≠ y.m ∧ z.gs.ownBlock ≠ some y.p ∧ z.gs.ownBlock ≠ some y.m := by
  refine ⟨fun e => ?_, fun e => ?_, fun e => ?_⟩
  · have h1 := hy.map; have h2 := hz.box
    unfold IMap at h1; unfold VarAt at h2
    rw [e, h1] at h2
    injection h2 with h2; cases h2
  · obtain ⟨-, ⟨h3, -⟩ | ⟨j, cap, cur, h3, -, h4, -⟩⟩ := hz.row
    · rw [h3] at e; cases e
    · rw [h3] at e
      have hj : j = y.p := Option.some.inj e
      have h2 := hy.box; unfold VarAt at h2
      rw [hj, h2] at h4; injection h4 with h4; cases h4
  · obtain ⟨-, ⟨h3, -⟩ | ⟨j, cap, cur, h3, -, h4, -⟩⟩ := hz.row
    · rw [h3] at e; cases e
    · rw [h3] at e
      have hj : j = y.m := Option.some.inj e
      have h2 := hy.map; unfold IMap at h2
      rw [hj, h2] at h4; injection h4 with h4; cases h4
def tellAll (M : List MemO) (id : IdD) (k t : Int) : List MemO := M.map fun z => if z.o.id = id then tellM z k t else z
/-- Behind both stores. -/
theorem QAt.told (h : QAt w x g S M v B) {y : MemO} (hy : y ∈ M) {k t : Int} (hk : k ≠ g) (hm : k ∈ y.o.groups) (ht1 : 1 ≤ t) (ht2 : t ≤ mostS) {w2 : World}
    (hone : OneAt w2 g B (tellM y k t)) (hb : VarAt w2 x 78 [.int .i64 g, .int .u64 (clockL g S (setKn y.o k t)), v])
    (hs : w.heap.size ≤ w2.heap.size) (hkeep : ∀ j, j < w.heap.size → j ≠ y.p → j ≠ y.m → j ≠ x → w2.heap[j]? = w.heap[j]?) (hos : w2.os = w.os) (htp : w2.tape = w.tape) (hout : w2.output = w.output) :
    QRaw w2 x g ⟨clockL g S (setKn y.o k t), put S.L (setKn y.o k t)⟩ (tellAll M y.o.id k t) v B ∧ QStep x w M v w2 (tellAll M y.o.id k t) v ∧ (tellAll M y.o.id k t).length = M.length := by
  have hfp : ∀ z : MemO, (if z.o.id = y.o.id then tellM z k t else z).p = z.p := fun z => by split <;> rfl
  have hfm : ∀ z : MemO, (if z.o.id = y.o.id then tellM z k t else z).m = z.m := fun z => by split <;> rfl
  have hfg : ∀ z : MemO, (if z.o.id = y.o.id then tellM z k t else z).gs = z.gs := fun z => by split <;> rfl
  have hlen : (tellAll M y.o.id k t).length = M.length := by unfold tellAll; rw [List.length_map]
  have hptr : (tellAll M y.o.id k t).map ptr = M.map ptr := by
    unfold tellAll
    rw [List.map_map]
    refine List.map_congr_left fun z _ => ?_
    show ptr _ = ptr z
    unfold ptr; rw [hfp]
  have hz : ∀ z, z ∈ tellAll M y.o.id k t → ∃ z0 ∈ M, z = if z0.o.id = y.o.id then tellM z0 k t else z0 := fun z h1 => by
    obtain ⟨z0, h2, rfl⟩ := List.mem_map.1 h1
    exact ⟨z0, h2, rfl⟩
  have hown : ∀ j, QOwn x (tellAll M y.o.id k t) v j → QOwn x M v j := fun j hj => by
    rcases hj with h1 | h1 | ⟨z, h1, h2⟩
    · exact .inl h1
    · exact .inr (.inl h1)
    · obtain ⟨z0, h3, rfl⟩ := hz z h1
      rw [hfp, hfm] at h2
      exact .inr (.inr ⟨z0, h3, h2⟩)
  refine ⟨⟨hb, ?_, ?_, h.ok.learn (h.mem hy) hk hm ht1 ht2, fun z h1 => ?_, ?_, fun j hj => ⟨(h.sep j hj).1, fun z h1 => ?_⟩, h.lowX, fun j hj => ⟨(h.lowR j hj).1, Nat.lt_of_lt_of_le (h.lowR j hj).2 hs⟩, h.g0⟩, ?_, hlen⟩
  · rw [hptr, hlen]
    exact h.row.keep hs fun j hj _ hl => hkeep j hl ((h.sep j hj).2 y hy).1 ((h.sep j hj).2 y hy).2.1 (h.sep j hj).1
  · have hp : ((M.map (·.o)).map fun z => if z.id = (setKn y.o k t).id then setKn y.o k t else z).Perm (put S.L (setKn y.o k t)) := by
      rw [h.lst]; exact (ord_perm g S.L).map _
    refine List.Perm.trans (List.Perm.of_eq ?_) hp
    unfold tellAll
    rw [List.map_map, List.map_map]
    refine List.map_congr_left fun z h1 => ?_
    simp only [Function.comp, setKn_id]
    by_cases e : z.o.id = y.o.id
    · rw [h.same hy h1 e]; simp [tellM]
    · simp [e]
  · obtain ⟨z0, h2, rfl⟩ := hz z h1
    by_cases e : z0.o.id = y.o.id
    · rw [if_pos e, h.same hy h2 e]; exact hone
    · rw [if_neg e]
      have hn : z0 ≠ y := fun e2 => e (by rw [e2])
      have k1 := (h.ones y hy).kinds (h.ones z0 h2)
      have k2 := (h.ones z0 h2).kinds (h.ones y hy)
      refine (h.ones z0 h2).keep (hkeep _ (h.ones z0 h2).box.lt (h.pp hy h2 hn) k1.1 (h.xp h2)) (hkeep _ (h.ones z0 h2).map.lt (fun e2 => k2.1 e2.symm) (h.mm hy h2 hn) (h.xm h2)) fun j hj => hkeep j ((h.ones z0 h2).row.lt j hj).2 (fun e2 => k1.2.1 (by rw [hj, e2])) (fun e2 => k1.2.2 (by rw [hj, e2])) fun e2 => h.xg h2 (by rw [hj, e2])
  · unfold tellAll
    rw [List.pairwise_map]
    refine h.maps.imp fun {a b} h1 => ?_
    rw [hfm, hfm]; exact h1
  · obtain ⟨z0, h3, rfl⟩ := hz z h1
    rw [hfp, hfm, hfg]
    exact (h.sep j hj).2 z0 h3
  · refine ⟨hos, htp, hout, hs, fun j hl hn => hkeep j hl (fun e => hn (.inr (.inr ⟨y, hy, .inl e⟩))) (fun e => hn (.inr (.inr ⟨y, hy, .inr e⟩))) fun e => hn (.inl e), fun j hj => .inl (hown j hj), fun j hj => .inl ?_⟩
    rcases hj with h1 | ⟨z, h1, h2⟩
    · exact .inl (hown j h1)
    · obtain ⟨z0, h3, rfl⟩ := hz z h1
      rw [hfg] at h2
      exact .inr ⟨z0, h3, h2⟩
end
end Go.Proofs.Ytamjdghjaimihaa
