/- One that waits, in memory; how two are compared. Conditions: each law's own. -/
import Derived.Test.YtamjdghjaimihaaStampF
import Derived.Test.YtamjdghjaimihaaHeld
import Derived.Deep.DeepCutAuto
import Derived.Deep.CutBlock
namespace Go.Proofs.Ytamjdghjaimihaa
set_option linter.unusedVariables false
open Go.ChangeShapes Go.WideShapes Go.ChangeAt Go.RowKit

/-- One that waits: its data, and where it lies. -/
structure MemO where
  o : OneD
  p : Nat
  m : Nat
  l : IEnts
  mc : Nat
  gs : Value
instance : Inhabited MemO := ⟨⟨default, 0, 0, [], 0, .slice none 0 0⟩⟩
def ptr (y : MemO) : Value := .pointer (some ⟨y.p, 0, none⟩)
structure OneAt (w : World) (g : Int) (B : Nat) (y : MemO) : Prop where
  box : VarAt w y.p 84 (encOne y.o.id.s y.o.id.q y.gs (y.o.kn g) (.map (some y.m)) (final y.o))
  row : w.ownsRow B 3 1 y.gs y.o.groups.length (y.o.groups.map (Value.int .i64))
  map : IMap w y.m y.l y.mc
  fresh : IFresh y.l y.mc
  vals : ∀ h, h ≠ g → valI y.l h = if y.o.kn h = 0 then none else some (y.o.kn h)
  noOwn : valI y.l g = none
  lowP : B ≤ y.p
  lowM : B ≤ y.m
theorem own_below {B : Nat} {w w' : World} {base e size n : Nat} {v : Value} {xs : List Value} (h : w.ownsRow base e size v n xs) (hb : Below w.heap.size w w') : w'.ownsRow base e size v n xs := by
  obtain ⟨h1, h2⟩ := h
  refine ⟨h1, h2.imp id fun ⟨g, cap, cur, a, b, c, d⟩ => ⟨g, cap, cur, a, b, ?_, d⟩⟩
  rw [hb.block g (Array.getElem?_eq_some_iff.1 c).1]; exact c
theorem OneAt.below {w w' : World} {g : Int} {B : Nat} {y : MemO} (h : OneAt w g B y) (hb : Below w.heap.size w w') : OneAt w' g B y :=
  ⟨h.box.keep hb h.box.lt, own_below (B := 0) h.row hb, h.map.keep hb h.map.lt, h.fresh, h.vals, h.noOwn, h.lowP, h.lowM⟩
theorem OneAt.keep {w w' : World} {g : Int} {B : Nat} {y : MemO} (h : OneAt w g B y) (h1 : w'.heap[y.p]? = w.heap[y.p]?) (h2 : w'.heap[y.m]? = w.heap[y.m]?) (h3 : ∀ k, y.gs.ownBlock = some k → w'.heap[k]? = w.heap[k]?) : OneAt w' g B y := by
  refine ⟨by unfold VarAt; rw [h1]; exact h.box, ?_, by unfold IMap; rw [h2]; exact h.map, h.fresh, h.vals, h.noOwn, h.lowP, h.lowM⟩
  obtain ⟨a1, a2⟩ := h.row
  refine ⟨a1, a2.imp id fun ⟨k, cap, cur, a, b, c, d⟩ => ⟨k, cap, cur, a, b, ?_, d⟩⟩
  rw [h3 k (by rw [a]; rfl)]; exact c

/-! ### The stamp -/
theorem mostOf_le {own c : Int} : ∀ {l : IEnts}, mostOf own l ≤ c ↔ own ≤ c ∧ ∀ x ∈ l, x.2.1 ≤ c := by
  intro l
  unfold mostOf
  induction l generalizing own with
  | nil => simp
  | cons x l ih =>
    rw [List.foldl_cons, ih]
    simp only [List.mem_cons, forall_eq_or_imp]
    constructor
    · rintro ⟨h1, h2⟩; exact ⟨by omega, by omega, h2⟩
    · rintro ⟨h1, h2, h3⟩; exact ⟨by omega, h3⟩
theorem valI_of_mem {l : IEnts} {x : Int × Int × Nat} (hn : (l.map (·.1)).Nodup) (hx : x ∈ l) : valI l x.1 = some x.2.1 := by
  unfold valI
  induction l with
  | nil => cases hx
  | cons y l ih =>
    rw [List.map_cons, List.nodup_cons] at hn
    rw [List.find?_cons]
    rcases List.mem_cons.1 hx with h | h
    · subst h; simp
    · have : ¬ y.1 = x.1 := fun e => hn.1 (e ▸ List.mem_map_of_mem h)
      simp only [this, decide_false]
      exact ih hn.2 h
theorem valI_mem {l : IEnts} {k v : Int} (h : valI l k = some v) : ∃ x ∈ l, x.1 = k ∧ x.2.1 = v := by
  unfold valI at h
  obtain ⟨x, hx, rfl⟩ := Option.map_eq_some_iff.1 h
  have := List.find?_some hx
  exact ⟨x, List.mem_of_find?_eq_some hx, by simpa using this, rfl⟩
theorem int_eq_of_le {a b : Int} (h : ∀ c, a ≤ c ↔ b ≤ c) : a = b := by have h1 := (h a).1 (Int.le_refl _); have h2 := (h b).2 (Int.le_refl _); omega
theorem OneAt.top {w : World} {g clock : Int} {B : Nat} {y : MemO} (h : OneAt w g B y) (ok : OneOk g clock y.o) : mostOf (y.o.kn g) y.l = topS y.o := by
  refine int_eq_of_le fun c => ?_
  rw [mostOf_le]
  unfold topS
  have hg := ok.range g ok.own
  have hz : ∀ k, 0 ≤ y.o.kn k := fun k => (ok.small k).1
  constructor
  · rintro ⟨h1, h2⟩
    have h3 : ∀ k, y.o.kn k ≤ c := fun k => by
      by_cases hk : k = g
      · subst hk; exact h1
      · by_cases h0 : y.o.kn k = 0
        · have := hz g; have := ok.ownPos; omega
        · have hv := h.vals k hk
          rw [if_neg h0] at hv
          obtain ⟨x, hx, -, hxv⟩ := valI_mem hv
          rw [← hxv]; exact h2 x hx
    have := h3 0; have := h3 1; have := h3 2; have := h3 3
    omega
  · intro h1
    have h3 : ∀ k, 0 ≤ k → k < 4 → y.o.kn k ≤ c := fun k hk0 hk4 => by
      have : k = 0 ∨ k = 1 ∨ k = 2 ∨ k = 3 := by omega
      rcases this with rfl | rfl | rfl | rfl <;> omega
    refine ⟨h3 g hg.1 hg.2, fun x hx => ?_⟩
    have hv := valI_of_mem h.fresh.keys hx
    have hxg : x.1 ≠ g := fun e => by rw [e, h.noOwn] at hv; cases hv
    have hv2 := h.vals x.1 hxg
    rw [hv] at hv2
    by_cases h0 : y.o.kn x.1 = 0
    · rw [if_pos h0] at hv2; cases hv2
    · rw [if_neg h0] at hv2
      have hr := ok.range x.1 (ok.known x.1 h0)
      rw [Option.some.inj hv2]
      exact h3 x.1 hr.1 hr.2
theorem c37o {w : World} {g clock : Int} {B : Nat} {y : MemO} (h : OneAt w g B y) (ok : OneOk g clock y.o) : Calls Try.prog 37 #[ptr y] w (StampEnd (stampS g y.o) w) := by
  have hc := c37 h.box h.map h.fresh
  have e : (if final y.o then mostOf (y.o.kn g) y.l else y.o.kn g) = stampS g y.o := by
    unfold stampS
    rw [h.top ok]
  rw [e] at hc
  exact hc

/-! ### Compare -/
def cmpO (g : Int) (a b : OneD) : Int := if stampS g a < stampS g b then -1 else if stampS g b < stampS g a then 1 else if lessId a.id b.id then -1 else 1
theorem grow_comp (w : World) (q q2 : Nat) (os os2 : Array Obj) : Go.Sort.grow ((Go.Sort.grow (w.drewN q) os).drewN q2) os2 = Go.Sort.grow (w.drewN (q + q2)) (os ++ os2) := by
  show Go.Sort.grow (Go.Sort.grow ((w.drewN q).drewN q2) os) os2 = _
  rw [Go.Sort.grow_grow, World.drewN_drewN]
theorem grow_below (w : World) (q : Nat) (os : Array Obj) : Below w.heap.size w (Go.Sort.grow (w.drewN q) os) :=
  ⟨rfl, rfl, rfl, by simp [Go.Sort.grow, World.drewN], fun k hk => by simp [Go.Sort.grow, World.drewN, Array.getElem?_append_left hk]⟩
def CmpS (a b : Nat) (x y : IdD) (W : World) : Prop := W.cell? ⟨a, 0, none⟩ = some (.int .i64 x.s) ∧ W.cell? ⟨a, 1, none⟩ = some (.int .i64 x.q) ∧ W.cell? ⟨b, 0, none⟩ = some (.int .i64 y.s) ∧ W.cell? ⟨b, 1, none⟩ = some (.int .i64 y.q)
def CmpEnd (v : Int) (w : World) (e : Ending) (w' : World) : Prop := e = .returned (.int .i64 v) ∧ ∃ q os, w' = Go.Sort.grow (w.drewN q) os
set_option maxHeartbeats 4000000 in
set_option maxRecDepth 1000000 in
theorem c50 {w : World} {g clock : Int} {B : Nat} {y z : MemO} (hy : OneAt w g B y) (hz : OneAt w g B z) (oy : OneOk g clock y.o) (oz : OneOk g clock z.o) : Calls Try.prog 50 #[ptr y, ptr z] w (CmpEnd (cmpO g y.o z.o) w) := by
  refine gen (S := CmpEnd (cmpO g y.o z.o) w) fun R hR => ?_
  have h37y := fun W (hb : Below w.heap.size w W) => c37o (hy.below hb) oy
  have h37z := fun W (hb : Below w.heap.size w W) => c37o (hz.below hb) oz
  have hby := hy.box
  have hbz := hz.box
  have HY := Lib.hid h37y
  have HZ := Lib.hid h37z
  have hc : cmpO g y.o z.o = if stampS g y.o < stampS g z.o then -1 else if stampS g z.o < stampS g y.o then 1 else if lessId y.o.id z.o.id then -1 else 1 := rfl
  rw [hc] at hR
  clear hc h37y h37z hy hz oy oz
  unfold ptr at HY HZ ⊢
  obtain ⟨⟨yid, yg, yk⟩, yp, ym, yl, ymc, ygs⟩ := y
  obtain ⟨⟨zid, zg, zk⟩, zp, zm, zl, zmc, zgs⟩ := z
  simp only at HY HZ hby hbz hR ⊢
  generalize stampS g ⟨yid, yg, yk⟩ = sy at HY hR
  generalize stampS g ⟨zid, zg, zk⟩ = sz at HZ hR
  have BY := Lib.hid hby
  have BZ := Lib.hid hbz
  clear hby hbz
  have hn : cmpI sy sz ≠ 0 → R (.returned (.int .i64 (cmpI sy sz))) = R (.returned (.int .i64 (if sy < sz then -1 else if sz < sy then 1 else if lessId yid zid then -1 else 1))) := fun h => by
    unfold cmpI at h ⊢
    split
    · rfl
    · rename_i h1
      rw [if_neg h1] at h
      split
      · rfl
      · rename_i h2; rw [if_neg h2] at h; exact absurd rfl h
  have HN := Lib.hid hn
  have HR := Lib.hid hR
  clear hn hR
  go_enter Try.func50, Try.ntmps50
  go_upto_region 2 with (first
    | (go_at_call 37; (with_reducible refine (HY.out _ (Below.refl _ _)).mono ?_); rintro e w1 ⟨rfl, q1, os1, he1⟩; have hb1 : Below w.heap.size w w1 := (by rw [he1]; exact grow_below _ _ _); have HE1 := Lib.hid he1; have HB1 := Lib.hid hb1; clear he1 hb1)
    | (go_at_call 37; (with_reducible refine (HZ.out _ HB1.out).mono ?_); rintro e w2 ⟨rfl, q2, os2, he2⟩; have HE2 := Lib.hid (show w2 = Go.Sort.grow (w.drewN (q1 + q2)) (os1 ++ os2) by rw [he2, HE1.out, grow_comp]); clear he2)
    | (go_at_call 51; refine (c51 _ _ _).mono ?_; rintro e w3 ⟨rfl, rfl⟩)
    | fail)
  obtain ⟨c, hc⟩ : ∃ c, c = cmpI sy sz := ⟨_, rfl⟩
  rw [← hc]
  have HC := Lib.hid hc
  by_cases h0 : c = 0
  · subst h0
    clear hc
    have hb3 : Below w.heap.size w w3 := by rw [HE2.out]; exact grow_below _ _ _
    have hy3 := BY.out.keep hb3 BY.out.lt
    have hz3 := BZ.out.keep hb3 BZ.out.lt
    have HY3 := Lib.hid hy3
    have HZ3 := Lib.hid hz3
    have yl3 := hy3.lt
    have zl3 := hz3.lt
    have sk : ∀ W, Below w3.heap.size w3 W → CmpS yp zp yid zid W := fun W hb => ⟨(HY3.out.keep hb HY3.out.lt).cell (j := 0) rfl, (HY3.out.keep hb HY3.out.lt).cell (j := 1) rfl, (HZ3.out.keep hb HZ3.out.lt).cell (j := 0) rfl, (HZ3.out.keep hb HZ3.out.lt).cell (j := 1) rfl⟩
    have SK := Lib.hid sk
    clear hb3 hy3 hz3 sk
    go_upto_region 4 with fail
    refine wp_region_noPanic ?_
    refine till_start (CmpS yp zp yid zid) 8 (by kernel_rfl) ?_
    have hS := SK.out w3.drew (Below.refl _ _).drew
    show AnyTill _ _ _ _ _ _ 9 (Array.replicate 9 false) _ _
    refine till_take 0 (v := ?_) rfl (by kernel_rfl) (fun _ _ _ h => h) (Or.inl ⟨by rfl, ?_⟩) hS ?_
    rotate_left
    focus (intro w' hSw; obtain ⟨hs0, hs1, hs2, hs3⟩ := hSw; go_simp; try (with_reducible rfl))
    try simp only [Act.put, List.setIfInBounds_toArray, List.set_cons_zero, List.set_cons_succ]
    refine till_take 1 (v := ?_) rfl (by kernel_rfl) (fun _ _ _ h => h) (Or.inl ⟨by rfl, ?_⟩) hS ?_
    rotate_left
    focus (intro w' hSw; obtain ⟨hs0, hs1, hs2, hs3⟩ := hSw; go_simp; try (with_reducible rfl))
    try simp only [Act.put, List.setIfInBounds_toArray, List.set_cons_zero, List.set_cons_succ]
    refine till_take 2 (v := ?_) rfl (by kernel_rfl) (fun _ _ _ h => h) (Or.inl ⟨by rfl, ?_⟩) hS ?_
    rotate_left
    focus (intro w' hSw; obtain ⟨hs0, hs1, hs2, hs3⟩ := hSw; go_simp; try (with_reducible rfl))
    try simp only [Act.put, List.setIfInBounds_toArray, List.set_cons_zero, List.set_cons_succ]
    refine till_take 3 (v := ?_) rfl (by kernel_rfl) (fun _ _ _ h => h) (Or.inl ⟨by rfl, ?_⟩) hS ?_
    rotate_left
    focus (intro w' hSw; obtain ⟨hs0, hs1, hs2, hs3⟩ := hSw; go_simp; try (with_reducible rfl))
    try simp only [Act.put, List.setIfInBounds_toArray, List.set_cons_zero, List.set_cons_succ]
    refine till_take 4 (v := ?_) rfl (by kernel_rfl) (fun _ _ _ h => h) (Or.inl ⟨by rfl, ?_⟩) hS ?_
    rotate_left
    focus (intro w' hSw; obtain ⟨hs0, hs1, hs2, hs3⟩ := hSw; go_simp; try (with_reducible rfl))
    try simp only [Act.put, List.setIfInBounds_toArray, List.set_cons_zero, List.set_cons_succ]
    refine till_take 5 (v := ?_) rfl (by kernel_rfl) (fun _ _ _ h => h) (Or.inl ⟨by rfl, ?_⟩) hS ?_
    rotate_left
    focus (intro w' hSw; obtain ⟨hs0, hs1, hs2, hs3⟩ := hSw; go_simp; try (with_reducible rfl))
    try simp only [Act.put, List.setIfInBounds_toArray, List.set_cons_zero, List.set_cons_succ]
    refine till_take 6 (v := ?_) rfl (by kernel_rfl) (fun _ _ _ h => h) (Or.inl ⟨by rfl, ?_⟩) hS ?_
    rotate_left
    focus (intro w' hSw; obtain ⟨hs0, hs1, hs2, hs3⟩ := hSw; go_simp; try (with_reducible rfl))
    try simp only [Act.put, List.setIfInBounds_toArray, List.set_cons_zero, List.set_cons_succ]
    refine till_take 7 (v := ?_) rfl (by kernel_rfl) (fun _ _ _ h => h) (Or.inl ⟨by rfl, ?_⟩) hS ?_
    rotate_left
    focus (intro w' hSw; obtain ⟨hs0, hs1, hs2, hs3⟩ := hSw; go_simp; try (with_reducible rfl))
    try simp only [Act.put, List.setIfInBounds_toArray, List.set_cons_zero, List.set_cons_succ]
    refine till_ready [8] (by kernel_rfl) (TillReady.cons 8 rfl (fun K hK => ?_) TillReady.nil)
    go_simp
    refine (c52 yid zid w3.drew).mono ?_
    rintro e w4 ⟨rfl, q4, os4, he4⟩
    have HE4 := Lib.hid (show w4 = Go.Sort.grow (w.drewN (q1 + q2 + (1 + q4))) (os1 ++ os2 ++ os4) by
      rw [he4, HE2.out]
      show Go.Sort.grow ((Go.Sort.grow (w.drewN (q1 + q2)) (os1 ++ os2)).drewN 1 |>.drewN q4) os4 = _
      rw [World.drewN_drewN, grow_comp])
    clear he4 hS
    refine (Hid.out hK) _ _ (fun h => absurd rfl h) ?_
    refine till_done (by kernel_rfl) ?_
    refine NoPanic.normal ?_
    have hcz : ¬ sy < sz ∧ ¬ sz < sy := by
      have := HC.out
      unfold cmpI at this
      constructor
      · intro h; rw [if_pos h] at this; omega
      · intro h; have h2 : ¬ sy < sz := by omega
        rw [if_neg h2, if_pos h] at this; omega
    have hRR := HR.out
    rw [if_neg hcz.1, if_neg hcz.2] at hRR
    have HRR := Lib.hid hRR
    clear hRR hcz
    cases hlb : lessId yid zid with
    | true =>
      rw [hlb] at HRR
      go_wp2
      go_tidy
      exact HRR.out _ _ ⟨rfl, _, _, HE4.out⟩
    | false =>
      rw [hlb] at HRR
      go_wp2
      go_tidy
      exact HRR.out _ _ ⟨rfl, _, _, HE4.out⟩
  · have h0b : (c != 0) = true := by simpa using h0
    have hend : R (.returned (.int .i64 c)) w3 := by
      rw [HC.out, HN.out (by rw [← HC.out]; exact h0)]
      exact HR.out _ _ ⟨rfl, _, _, HE2.out⟩
    have END := Lib.hid hend
    clear hc h0 hend
    go_wp2
    go_tidy
    exact END.out
end Go.Proofs.Ytamjdghjaimihaa
