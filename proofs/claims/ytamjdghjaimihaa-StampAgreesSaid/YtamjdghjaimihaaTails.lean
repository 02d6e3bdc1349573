/- Slices of one-cell elements in memory of the call's own, wherever in their block they begin: 'q = append(q, x)', 'q = q[1:]'. Conditions: each law's own. -/
import Derived.Test.YtamjdghjaimihaaKit
import Derived.ArgAppend
import Derived.Deep.Upon
import Derived.Deep.MidRow
namespace Go.Proofs.Ytamjdghjaimihaa
open Go.ChangeShapes Go.WideShapes Go.ChangeAt Go.RowKit

/-- The slice v has n elements, the cells xs; its block, where it has one, is base or younger, and no cell of it is frozen. -/
def Tail (w : World) (base : Nat) (v : Value) (n : Nat) (xs : List Value) : Prop :=
  ∃ ao cap, v = .slice ao n cap ∧ xs.length = n ∧ n ≤ cap ∧ cap ≤ maxLen ∧ (ao = none → cap = 0) ∧
    (0 < cap → ∃ g off, ao = some ⟨g, off, none⟩ ∧ base ≤ g ∧ g < w.heap.size ∧ (∀ j, j < cap → (w.cell? ⟨g, off + j, none⟩).isSome = true ∧ w.frozen? ⟨g, off + j, none⟩ = false) ∧
      ∀ j u, xs[j]? = some u → w.cell? ⟨g, off + j, none⟩ = some u)

theorem Tail.nil (w : World) (base : Nat) : Tail w base (.slice none 0 0) 0 [] := ⟨none, 0, rfl, rfl, Nat.le_refl _, by simp [maxLen], fun _ => rfl, fun h => absurd h (by omega)⟩

theorem Tail.keep {w w' : World} {base : Nat} {v : Value} {n : Nat} {xs : List Value} (h : Tail w base v n xs) (hs : w.heap.size ≤ w'.heap.size)
    (hb : ∀ k, v.ownBlock = some k → base ≤ k → k < w.heap.size → w'.heap[k]? = w.heap[k]?) : Tail w' base v n xs := by
  obtain ⟨ao, cap, hv, h1, h2, h3, h4, h5⟩ := h
  refine ⟨ao, cap, hv, h1, h2, h3, h4, fun hp => ?_⟩
  obtain ⟨g, off, ha, hg, hlt, hc, hx⟩ := h5 hp
  have he := hb g (by rw [hv, ha]; rfl) hg hlt
  refine ⟨g, off, ha, hg, by omega, fun j hj => ?_, fun j u hu => ?_⟩
  · rw [World.cell?_of_block (a := ⟨g, off + j, none⟩) he, World.frozen?_of_block (a := ⟨g, off + j, none⟩) he]; exact hc j hj
  · rw [World.cell?_of_block (a := ⟨g, off + j, none⟩) he]; exact hx j u hu

theorem Tail.below {w w' : World} {base B : Nat} {v : Value} {n : Nat} {xs : List Value} (h : Tail w base v n xs) (hb : Below B w w') (hB : w.heap.size ≤ B) : Tail w' base v n xs :=
  h.keep hb.size (fun k _ _ hk => hb.block k (by omega))

theorem Tail.alloc {w : World} {base : Nat} {v : Value} {n : Nat} {xs : List Value} (h : Tail w base v n xs) (o : Obj) : Tail (w.alloc o) base v n xs :=
  h.keep (by simp) (fun k _ _ hk => Below.heap_alloc w o k hk)

theorem Tail.drewN {w : World} {base : Nat} {v : Value} {n : Nat} {xs : List Value} (h : Tail w base v n xs) (m : Nat) : Tail (w.drewN m) base v n xs := h

theorem Tail.other {w : World} {base : Nat} {v : Value} {n : Nat} {xs : List Value} (h : Tail w base v n xs) {a : Addr} (ha : v.ownBlock ≠ some a.block) (u : Value) : Tail (w.setCell a u) base v n xs :=
  h.keep (by simp) (fun k hk _ _ => Below.heap_setCell w a u k (fun e => ha (by rw [hk, e])))

theorem Tail.of_owns {w : World} {base e n : Nat} {v : Value} {xs : List Value} (h : w.ownsRow base e 1 v n xs) : Tail w base v n xs := by
  obtain ⟨h1, ⟨rfl, h2⟩ | ⟨g, cap, cur, rfl, hg, hh, hn, hm, hs, ht⟩⟩ := h
  · subst h2
    obtain rfl : xs = [] := List.eq_nil_of_length_eq_zero (by omega)
    exact Tail.nil w base
  · refine ⟨_, cap, rfl, by omega, hn, hm, fun h => (by cases h), fun _ => ⟨g, 0, rfl, hg, (Array.getElem?_eq_some_iff.1 hh).1, fun j hj => ?_, fun j u hu => ?_⟩⟩
    · rw [Nat.zero_add, cell_of_row w g j cur e (0, 0) hh]
      exact ⟨by simp; omega, by simp [World.frozen?, hh]⟩
    · rw [Nat.zero_add, cell_of_row w g j cur e (0, 0) hh]
      rw [← ht, List.getElem?_take] at hu
      split at hu
      · rw [Array.getElem?_toList] at hu; exact hu
      · cases hu

/-- What stands at place i. -/
theorem Tail.cell {w : World} {base : Nat} {ao : Option Addr} {n cap : Nat} {xs : List Value} (h : Tail w base (.slice ao n cap) n xs) {i : Nat} {u : Value} (hu : xs[i]? = some u) :
    ∃ g off, ao = some ⟨g, off, none⟩ ∧ base ≤ g ∧ g < w.heap.size ∧ w.cell? ⟨g, off + i, none⟩ = some u := by
  obtain ⟨ao', cap', hv, h1, h2, h3, h4, h5⟩ := h
  cases hv
  have hi := (List.getElem?_eq_some_iff.1 hu).1
  obtain ⟨g, off, ha, hg, hlt, hc, hx⟩ := h5 (by omega)
  exact ⟨g, off, ha, hg, hlt, hx i u hu⟩

/-- 'v[i:]': q is what the model gives for the address. -/
theorem Tail.drop {w : World} {base : Nat} {g off n cap : Nat} {xs : List Value} (h : Tail w base (.slice (some ⟨g, off, none⟩) n cap) n xs) (i : Nat) (hi : i ≤ n) (q : Option Addr) (hq : i < cap → q = some ⟨g, off + i, none⟩) (hq0 : q ≠ none) :
    Tail w base (.slice q (n - i) (cap - i)) (n - i) (xs.drop i) := by
  obtain ⟨ao', cap', hv, h1, h2, h3, h4, h5⟩ := h
  cases hv
  refine ⟨q, cap - i, rfl, by rw [List.length_drop]; omega, by omega, by omega, fun h => absurd h hq0, fun hp => ?_⟩
  obtain ⟨g', off', ha, hg, hlt, hc, hx⟩ := h5 (by omega)
  cases ha
  refine ⟨g, off + i, hq (by omega), hg, hlt, fun j hj => ?_, fun j u hu => ?_⟩
  · rw [Nat.add_assoc]; exact hc (i + j) (by omega)
  · rw [List.getElem?_drop] at hu
    rw [Nat.add_assoc]; exact hx (i + j) u hu

theorem Tail.base_le {w : World} {base b2 : Nat} {v : Value} {n : Nat} {xs : List Value} (h : Tail w base v n xs) (hb : b2 ≤ base) : Tail w b2 v n xs := by
  obtain ⟨ao, cap, rfl, h1, h2, h3, h4, h5⟩ := h
  refine ⟨ao, cap, rfl, h1, h2, h3, h4, fun hp => ?_⟩
  obtain ⟨g, off, ha, hg, hr⟩ := h5 hp
  exact ⟨g, off, ha, by omega, hr⟩

/-- 'append(v, x)', x one element of one cell that lies at p. -/
theorem run_append_tail {P : Program} (w : World) (t ty : TypeId) (base : Nat) (e : TypeId) (z : Value) (bytes : Nat) (ht : P.underlying t = some (.slice e))
    (hinf : (P.info? e).map (fun i => (i.zero, i.size, i.bytes)) = some (some z, 1, bytes)) (hzs : z.cells.size = 1)
    (u : Value) (h1 : u.oneCell' = true) (v : Value) (n : Nat) (xs : List Value) (hown : Tail w base v n xs) (p : Nat) (hp : w.cell? ⟨p, 0, none⟩ = some u)
    (h63 : n + 1 ≤ maxLen) (hbytes : (n + 1) * bytes ≤ 140737488355328) (hbase : base ≤ w.heap.size) :
    ∃ v' w', (Builtin.append_ #[t, t] ty #[v, .slice (some ⟨p, 0, none⟩) 1 1]).run P w = .ok v' w' ∧ Tail w' base v' (n + 1) (xs ++ [u]) ∧ w.grownBy w' v.ownBlock ∧ (v'.ownBlock = v.ownBlock ∨ ∃ g, v'.ownBlock = some g ∧ w.heap.size ≤ g) := by
  obtain ⟨i, hi, hz, hsz', hby⟩ := info_parts hinf
  have hnew : ∀ j y, [u][j]? = some y → w.cell? ((⟨p, 0, none⟩ : Addr).add j) = some y := by
    intro j y hy
    have hj : j = 0 := by
      have := (List.getElem?_eq_some_iff.1 hy).1
      simp at this; omega
    subst hj
    rw [Go.WideShapes.add_plain]
    simp at hy; subst hy; exact hp
  have back : ∀ v' w', w'.ownsRow w.heap.size e 1 v' (n + 1) (xs ++ [u]) → w.grownBy w' none → Tail w' base v' (n + 1) (xs ++ [u]) ∧ w.grownBy w' v.ownBlock ∧ (v'.ownBlock = v.ownBlock ∨ ∃ g, v'.ownBlock = some g ∧ w.heap.size ≤ g) := by
    intro v' w' hown' hg
    refine ⟨(Tail.of_owns hown').base_le hbase, ⟨hg.os, hg.tape, hg.output, hg.size, fun k hk _ => hg.block k hk (by simp)⟩, ?_⟩
    obtain ⟨_, ⟨rfl, h2⟩ | ⟨g, cap', cur, rfl, hg', _⟩⟩ := hown'
    · omega
    · exact .inr ⟨g, rfl, hg'⟩
  obtain ⟨ao, cap, rfl, hl, hn, hm, hnone, hpos⟩ := hown
  by_cases hcap : cap < n + 1
  · cases ao with
    | none =>
      have hc0 := hnone rfl
      subst hc0
      obtain rfl : n = 0 := by omega
      obtain rfl : xs = [] := List.eq_nil_of_length_eq_zero hl
      obtain ⟨v', w', hr, hown', hg, _⟩ := run_append_own (P := P) w w.heap.size t ty e i z 1 bytes ht hi hz hsz' hby hzs (by decide) (.slice none 0 0) 0 [] (World.ownsRow_nil w _ e 1) ⟨p, 0, none⟩ 1 1 [u] rfl hnew (by simpa using h1) h63 hbytes (Nat.le_refl _)
      obtain ⟨r1, r2, r3⟩ := back v' w' hown' hg
      exact ⟨v', w', hr, r1, r2, r3⟩
    | some b =>
      obtain ⟨v', w', hr, hown', hg⟩ := run_append_arg_grows (P := P) w t ty e i z 1 bytes ht hi hz hsz' hby hzs (by decide) b n cap xs (by omega) (fun j y hy => by
        have hj := (List.getElem?_eq_some_iff.1 hy).1
        obtain ⟨g, off, ha, _, hlt, hc, hxx⟩ := hpos (by omega)
        obtain rfl := Option.some.inj ha
        rw [Go.WideShapes.add_plain]
        exact hxx j y hy) ⟨p, 0, none⟩ 1 1 [u] rfl hnew hcap h63 hbytes
      obtain ⟨r1, r2, r3⟩ := back v' w' hown' hg
      exact ⟨v', w', hr, r1, r2, r3⟩
  · obtain ⟨g, off, rfl, hbg, hlt, hc, hxx⟩ := hpos (by omega)
    have hcn := hc n (by omega)
    have hr := run_append_room_cells (P := P) w t ty e i ht hi g off n cap ⟨p, 0, none⟩ 1 1 [u] (by rw [hsz']; rfl) hnew (by simpa using h1) (by omega) (fun j hj => by
      simp at hj; subst hj; rw [hsz', Nat.mul_one]; exact hcn.1) (fun j hj => by
      simp at hj; subst hj; rw [hsz', Nat.mul_one]; exact hcn.2)
    rw [hsz', Nat.mul_one] at hr
    refine ⟨_, _, hr, ⟨_, cap, rfl, by simp [hl], by omega, hm, fun h => (by cases h), fun hp => ⟨g, off, rfl, hbg, by simp [World.setCells]; omega, fun j hj => ?_, fun j y hy => ?_⟩⟩, ?_, .inl rfl⟩
    · obtain ⟨c1, c2⟩ := hc j hj
      exact ⟨World.isSome_setCells g [u] (off + n) w ⟨g, off + j, none⟩ c1, (World.frozen?_setCells g [u] (off + n) w ⟨g, off + j, none⟩).trans c2⟩
    · rcases Nat.lt_or_ge j n with hj | hj
      · rw [List.getElem?_append_left (by omega)] at hy
        show (w.setCell ⟨g, off + n, none⟩ u).cell? _ = _
        rw [World.cell?_setCell_other _ _ _ _ (by intro e; injection e with _ e2; omega)]
        exact hxx j y hy
      · rw [List.getElem?_append_right (by omega)] at hy
        have hj' : j = n := by
          have := (List.getElem?_eq_some_iff.1 hy).1
          simp at this; omega
        subst hj'
        rw [hl] at hy
        simp at hy
        subst hy
        have := World.cell?_setCells_in g [u] (off + j) w (fun k hk => by
          simp at hk; subst hk
          rw [Nat.add_zero]
          exact hcn.1) 0 (by simp)
        simpa [World.setCells] using this
    · refine ⟨rfl, rfl, rfl, by simp [World.setCells], fun k hk hne => ?_⟩
      have hne' : k ≠ g := fun e => hne (by rw [e]; rfl)
      exact Below.heap_setCell _ ⟨g, off + n, none⟩ u k hne'

theorem wp_append_tail {P : Program} (w : World) {o : Oper} {a : Act} {K : Act → World → Prop} {Q : Exit → Act → World → Prop} (s x : Operand) (t : TypeId)
    (ho : o.op = .call { callee := .builtin .append, args := #[s, x], argTypes := #[t, t] })
    (base : Nat) (e : TypeId) (z : Value) (bytes : Nat) (ht : P.underlying t = some (.slice e))
    (hinf : (P.info? e).map (fun i => (i.zero, i.size, i.bytes)) = some (some z, 1, bytes)) (hzs : z.cells.size = 1)
    (u : Value) (h1 : u.oneCell' = true) (v : Value) (n : Nat) (xs : List Value) (hs : a.eval s = v) (hown : Tail w base v n xs) (p : Nat) (hx : a.eval x = .slice (some ⟨p, 0, none⟩) 1 1) (hp : w.cell? ⟨p, 0, none⟩ = some u)
    (h63 : n + 1 ≤ maxLen) (hbytes : (n + 1) * bytes ≤ 140737488355328) (hbase : base ≤ w.heap.size)
    (h : ∀ v' w', Tail w' base v' (n + 1) (xs ++ [u]) → w.grownBy w' v.ownBlock → (v'.ownBlock = v.ownBlock ∨ ∃ g, v'.ownBlock = some g ∧ w.heap.size ≤ g) → K (a.put o.dst v') w') : o.wp P a w K Q := by
  obtain ⟨v', w', hr, r1, r2, r3⟩ := run_append_tail (P := P) w t o.type base e z bytes ht hinf hzs u h1 v n xs hown p hp h63 hbytes hbase
  unfold Oper.wp execOp
  simp only [ho, resolve, invoke, builtin, Sem.run_bind, Sem.run_pure, Result.andThen_ok, List.map_toArray, List.map_cons, List.map_nil, hs, hx, hr]
  exact h v' w' r1 r2 r3

theorem wpList_append_tail {P : Program} (w : World) {ops : Array Oper} {rest : List Oper} {o : Oper} {a : Act} {Q : Exit → Act → World → Prop} (hgd : o.guard = none) (s x : Operand) (t : TypeId)
    (ho : o.op = .call { callee := .builtin .append, args := #[s, x], argTypes := #[t, t] })
    (base : Nat) (e : TypeId) (z : Value) (bytes : Nat) (ht : P.underlying t = some (.slice e))
    (hinf : (P.info? e).map (fun i => (i.zero, i.size, i.bytes)) = some (some z, 1, bytes)) (hzs : z.cells.size = 1)
    (u : Value) (h1 : u.oneCell' = true) (v : Value) (n : Nat) (xs : List Value) (hs : a.eval s = v) (hown : Tail w base v n xs) (p : Nat) (hx : a.eval x = .slice (some ⟨p, 0, none⟩) 1 1) (hp : w.cell? ⟨p, 0, none⟩ = some u)
    (h63 : n + 1 ≤ maxLen) (hbytes : (n + 1) * bytes ≤ 140737488355328) (hbase : base ≤ w.heap.size)
    (h : ∀ v' w', Tail w' base v' (n + 1) (xs ++ [u]) → w.grownBy w' v.ownBlock → (v'.ownBlock = v.ownBlock ∨ ∃ g, v'.ownBlock = some g ∧ w.heap.size ≤ g) → wpList P ops Q rest (a.put o.dst v') w') :
    wpList P ops Q (o :: rest) a w :=
  wpList_plain hgd fun _ hK => wp_append_tail w s x t ho base e z bytes ht hinf hzs u h1 v n xs hs hown p hx hp h63 hbytes hbase fun v' w' r1 r2 r3 => hK _ _ (h v' w' r1 r2 r3)

/-- At a step of a region that draws. -/
theorem step_append_tail {P : Program} (w : World) {ops : Array Oper} {o : Oper} {a : Act} {K : Act → World → Prop} {Q : Exit → Act → World → Prop} {E : Prop} (hgd : o.guard = none) (s x : Operand) (t : TypeId)
    (ho : o.op = .call { callee := .builtin .append, args := #[s, x], argTypes := #[t, t] })
    (base : Nat) (e : TypeId) (z : Value) (bytes : Nat) (ht : P.underlying t = some (.slice e))
    (hinf : (P.info? e).map (fun i => (i.zero, i.size, i.bytes)) = some (some z, 1, bytes)) (hzs : z.cells.size = 1)
    (u : Value) (h1 : u.oneCell' = true) (v : Value) (n : Nat) (xs : List Value) (hs : a.eval s = v) (hown : Tail w base v n xs) (p : Nat) (hx : a.eval x = .slice (some ⟨p, 0, none⟩) 1 1) (hp : w.cell? ⟨p, 0, none⟩ = some u)
    (h63 : n + 1 ≤ maxLen) (hbytes : (n + 1) * bytes ≤ 140737488355328) (hbase : base ≤ w.heap.size)
    (h : ∀ v' w', Tail w' base v' (n + 1) (xs ++ [u]) → w.grownBy w' v.ownBlock → (v'.ownBlock = v.ownBlock ∨ ∃ g, v'.ownBlock = some g ∧ w.heap.size ≤ g) → K (a.put o.dst v') w') :
    if Region.wanted o (yielded ops a.tmps) = true then Oper.wp P o a w K Q else E := by
  have hw : Region.wanted o (yielded ops a.tmps) = true := by simp [Region.wanted, hgd]
  rw [if_pos hw]
  exact wp_append_tail w s x t ho base e z bytes ht hinf hzs u h1 v n xs hs hown p hx hp h63 hbytes hbase h
end Go.Proofs.Ytamjdghjaimihaa
