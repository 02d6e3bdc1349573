/- The law NetPlays: the script on both, what is counted, links and bags. Conditions: each law's own. -/
import Derived.Test.YtkkambhkfegodaaFew
namespace Go.Proofs.Ytkkambhkfegodaa
open Go.ChangeShapes Go.WideShapes Go.ChangeAt Go.RowKit

theorem AnyTill.weaken {P : Program} {md : Region.Mode} {ops : Array Oper} {Q : Exit → Act → World → Prop} {S S' : World → Prop} {z : Nat} (hS : ∀ w, S' w → S w) : ∀ (n : Nat) (l : Array Bool) (a : Act) (w : World), AnyTill P md ops Q S' z n l a w → AnyTill P md ops Q S z n l a w
  | 0, _, _, _, h => h
  | n + 1, _, _, _, h => ⟨h.1, fun i hi => wpOp_mono (fun a' w' h' => ⟨fun hz => hS _ (h'.1 hz), AnyTill.weaken hS n _ a' w' h'.2⟩) (h.2 i hi)⟩
structure OpS (b o : Nat) (q : OpV) (w : World) : Prop where
  c0 : w.cell? ⟨b, o, none⟩ = some (.int .i64 q.kind)
  c1 : w.cell? ⟨b, o + 1, none⟩ = some (.int .i64 q.f)
  c2 : w.cell? ⟨b, o + 2, none⟩ = some (.int .i64 q.t)
  c3 : w.cell? ⟨b, o + 3, none⟩ = some (.int .i64 q.a)
  c4 : w.cell? ⟨b, o + 4, none⟩ = some (.int .i64 q.d)
  c5 : w.cell? ⟨b, o + 5, none⟩ = some q.v
theorem OpS.below {b o B : Nat} {q : OpV} {w w' : World} (h : OpS b o q w) (hb : Below B w w') (hlt : b < B) : OpS b o q w' :=
  ⟨by rw [hb.cell (p := ⟨b, o, none⟩) hlt]; exact h.c0, by rw [hb.cell (p := ⟨b, o + 1, none⟩) hlt]; exact h.c1, by rw [hb.cell (p := ⟨b, o + 2, none⟩) hlt]; exact h.c2, by rw [hb.cell (p := ⟨b, o + 3, none⟩) hlt]; exact h.c3, by rw [hb.cell (p := ⟨b, o + 4, none⟩) hlt]; exact h.c4, by rw [hb.cell (p := ⟨b, o + 5, none⟩) hlt]; exact h.c5⟩
theorem RowOf.opS {w : World} {a : Option Addr} {n cap : Nat} {os : List OpV} (h : RowOf OpV.cells 6 w (.slice a n cap) os) {i : Nat} (hi : i < os.length) : ∃ b o q, a = some ⟨b, o, none⟩ ∧ b < w.heap.size ∧ os[i]? = some q ∧ OpS b (o + i * 6) q w := by
  obtain ⟨b, o, q, h1, h2, h3, h4, h5, h6, h7, h8, h9⟩ := h.op hi
  exact ⟨b, o, q, h1, h2, h3, h4, h5, h6, h7, h8, h9⟩
def OpSY (b o : Nat) (q : OpV) (y : Nat) (lv : Value) (w : World) : Prop := OpS b o q w ∧ w.cell? ⟨y, 0, none⟩ = some lv
theorem RefAt.len {w0 w : World} {y : Nat} {lv : Value} {L : List Pkt} (h : RefAt w0 w y lv L) : ∃ a c, lv = .slice a L.length c := by
  obtain ⟨a, cap, rfl, -⟩ := h.rowOf
  exact ⟨a, cap, rfl⟩
theorem Both.count {w0 w : World} {x y : Nat} {s : NS} {lv : Value} {B : Key → List (List Int)} {L : List Pkt} {N : Nat} (h : Both w0 w x s y lv B L N) {ks : List Key} (h1 : ks.Pairwise ltL) (h2 : ∀ k, k ∈ ks ↔ B k ≠ []) : total B ks = L.length := by
  have e : B = fun k => bagOf k L := funext h.same
  have hn : ks.Nodup := h1.imp (by rintro a b h rfl; unfold ltL at h; omega)
  rw [e]
  refine total_cnt L ks hn fun p hp => (h2 p.1).2 ?_
  rw [h.same]
  intro e2
  have : p.2.2 ∈ bagOf p.1 L := List.mem_map.2 ⟨p, List.mem_filter.2 ⟨hp, by simp⟩, rfl⟩
  rw [e2] at this
  cases this
theorem mem_keysOf {L : List Pkt} {k : Key} : k ∈ keysOf L ↔ bagOf k L ≠ [] := by
  unfold bagOf onLink keysOf
  constructor
  · intro h e
    simp only [List.mem_map] at h
    obtain ⟨p, hp, rfl⟩ := h
    have : p.2.2 ∈ List.map (·.2.2) (List.filter (fun q : Pkt => decide (q.1 = p.1)) L) := List.mem_map.2 ⟨p, List.mem_filter.2 ⟨hp, by simp⟩, rfl⟩
    rw [e] at this
    cases this
  · intro h
    obtain ⟨b, hb⟩ := List.exists_mem_of_ne_nil _ h
    obtain ⟨p, hp, rfl⟩ := List.mem_map.1 hb
    obtain ⟨h1, h2⟩ := List.mem_filter.1 hp
    simp only [List.mem_map]
    exact ⟨p, h1, by simpa using h2⟩
/-- Two sorted lists of the same links are one. -/
theorem links_eq : ∀ {ks ls : List Key}, ks.Pairwise ltL → ls.Pairwise ltL → (∀ k, k ∈ ks ↔ k ∈ ls) → ks = ls
  | [], [], _, _, _ => rfl
  | [], l :: ls, _, _, h => absurd ((h l).2 (List.mem_cons_self ..)) (by simp)
  | k :: ks, [], _, _, h => absurd ((h k).1 (List.mem_cons_self ..)) (by simp)
  | k :: ks, l :: ls, h1, h2, h => by
    rw [List.pairwise_cons] at h1 h2
    have irr : ∀ a : Key, ¬ ltL a a := fun a => by unfold ltL; omega
    have asy : ∀ a b : Key, ltL a b → ltL b a → False := fun a b => by unfold ltL; omega
    have hkl : k = l := by
      rcases List.mem_cons.1 ((h k).1 (List.mem_cons_self ..)) with e | e
      · exact e
      · rcases List.mem_cons.1 ((h l).2 (List.mem_cons_self ..)) with e2 | e2
        · exact e2.symm
        · exact absurd (h1.1 l e2) (fun q => asy _ _ q (h2.1 k e))
    subst hkl
    rw [links_eq h1.2 h2.2 fun m => ?_]
    constructor
    · intro hm
      rcases List.mem_cons.1 ((h m).1 (List.mem_cons_of_mem _ hm)) with e | e
      · subst e; exact absurd (h1.1 m hm) (irr m)
      · exact e
    · intro hm
      rcases List.mem_cons.1 ((h m).2 (List.mem_cons_of_mem _ hm)) with e | e
      · subst e; exact absurd (h2.1 m hm) (irr m)
      · exact e
theorem rbag_row {w0 w : World} {y : Nat} {lv : Value} {L : List Pkt} (h : RefAt w0 w y lv L) (hw : Below w0.heap.size w0 w) (k : Key) {base : Nat} {v : Value} (ht : Tail w base v (cnt k L) (vals (onLink k L))) : BagRow w v (bagOf k L) := by
  refine ⟨vals (onLink k L), by rw [bagOf_len]; exact ht.base_le (Nat.zero_le _), fun i u b hu hb => ?_⟩
  unfold vals at hu
  unfold bagOf at hb
  rw [List.getElem?_map] at hu hb
  cases hp : (onLink k L)[i]? with
  | none => rw [hp] at hu; cases hu
  | some p =>
    rw [hp] at hu hb
    simp only [Option.map_some, Option.some.injEq] at hu hb
    subst hu hb
    exact ((h.pk p (mem_onLink (List.mem_of_getElem? hp)).1).1).keep hw
theorem bag_small {w0 w : World} {y : Nat} {lv : Value} {L : List Pkt} (h : RefAt w0 w y lv L) (k : Key) : ∀ b ∈ bagOf k L, b.length ≤ 1000 := by
  intro b hb
  unfold bagOf at hb
  obtain ⟨p, hp, rfl⟩ := List.mem_map.1 hb
  exact (h.pk p (mem_onLink hp).1).2
/-- Both as they begin. -/
theorem Both.new {w0 w : World} (hb : Below w0.heap.size w0 w) :
    Both w0 (((w.alloc (.map #[] 0)).alloc (.cells #[.map (some w.heap.size)] 62)).alloc (.cells #[.slice none 0 0] 46)) (w.heap.size + 1) (newNS w) (w.heap.size + 2) (.slice none 0 0) (fun _ => []) [] 0 := by
  have hn := NetAt.new w (fun j => j < w0.heap.size) (fun j h => Nat.lt_of_lt_of_le h hb.size)
  generalize hW : (w.alloc (.map #[] 0)).alloc (.cells #[.map (some w.heap.size)] 62) = W at *
  have hsz : W.heap.size = w.heap.size + 2 := by rw [← hW]; simp
  have hbW : Below w0.heap.size w0 W := by rw [← hW]; exact (hb.alloc hb.size _).alloc (by have := hb.size; simp; omega) _
  have hf : Frame (fun _ => True) W (W.alloc (.cells #[.slice none 0 0] 46)) := .of_below ((Below.refl _ _).alloc (Nat.le_refl _) _)
  refine ⟨hn.keep hf fun j hj hz => ⟨trivial, fun h2 => h2.elim hz fun h3 => h3.elim (fun h4 => by omega) (fun h4 => by cases h4)⟩, ⟨?_, ?_, by simp, hbW.alloc hbW.size _, by have := hb.size; omega⟩, fun k => rfl⟩
  · have := VarAt.new W 46 [.slice none 0 0]
    rw [hsz] at this
    exact this
  · exact ⟨by simp, .inl ⟨rfl, rfl⟩⟩
def PlaysRel (w : World) (x y : Nat) (os : List OpV) (i : Value) (wr : World) : Prop :=
  ∃ j : Nat, j ≤ os.length ∧ i = .int .i64 j ∧ ∃ s lv B L, Both w wr x s y lv B L j ∧ L.length ≤ j
theorem RowOf.linkAt {w : World} {a : Option Addr} {n cap : Nat} {ks : List Key} (h : RowOf encLL 2 w (.slice a n cap) ks) {i : Nat} (hi : i < ks.length) :
    ∃ b o f t, a = some ⟨b, o, none⟩ ∧ b < w.heap.size ∧ ks[i]? = some (f, t) ∧ w.cell? ⟨b, o + i * 2, none⟩ = some (.int .i64 f) ∧ w.cell? ⟨b, o + i * 2 + 1, none⟩ = some (.int .i64 t) := by
  obtain ⟨a', cap', hv, h1, h2, h3⟩ := h
  cases hv
  obtain ⟨b, o, rfl, hlt, hc⟩ := h3 (by omega)
  have hp : ks[i]? = some ks[i] := List.getElem?_eq_getElem hi
  exact ⟨b, o, ks[i].1, ks[i].2, rfl, hlt, hp, hc i 0 _ _ hp rfl, hc i 1 _ _ hp rfl⟩
set_option maxHeartbeats 8000000 in
set_option maxRecDepth 100000 in
theorem c6 (a : Option Addr) (cap : Nat) (os : List OpV) (w : World) (hv : RowOf OpV.cells 6 w (.slice a os.length cap) os) (hok : ∀ o ∈ os, o.ok w) :
    Calls Try.prog 6 #[.slice a os.length cap] w fun e w' => e = .returned (.bool true) ∧ Below w.heap.size w w' := by
  refine gen fun R hR => ?_
  cases hfew : fewB os with
  | false =>
    have h16 := fun (W : World) (hb : Below w.heap.size w W) => c16 (hv.keep hb) (fun o ho => ⟨w, (hok o ho).row⟩)
    simp only [hfew] at h16
    clear hv hok hfew
    go_enter Try.func6, Try.ntmps6
    go_wp2_with (first
      | (go_at_call 8; refine (c8 w).mono ?_; rintro e w1 ⟨rfl, hb1⟩)
      | (go_at_call 16; refine (h16 w1 hb1).mono ?_; rintro e w' ⟨rfl, rfl⟩)
      | (go_at_call 8; (with_reducible refine (c8 _).mono ?_); rintro e w2 ⟨rfl, hb2⟩)
      | fail)
    go_tidy
    exact ⟨rfl, hb1.trans (hb2.mono hb1.size)⟩
  | true =>
    have h16 := fun (W : World) (hb : Below w.heap.size w W) => c16 (hv.keep hb) (fun o ho => ⟨w, (hok o ho).row⟩)
    simp only [hfew] at h16
    obtain ⟨hlen, hsm⟩ := of_decide_eq_true hfew
    have HV := Lib.hid hv
    have HO := Lib.hid hok
    have HM := Lib.hid hsm
    clear hv hok hfew hsm
    go_enter Try.func6, Try.ntmps6
    go_wp2_with (first
      | (go_at_call 8; refine (c8 w).mono ?_; rintro e w1 ⟨rfl, hb1⟩)
      | (go_at_call 16; refine (h16 w1 hb1).mono ?_; rintro e w' ⟨rfl, rfl⟩)
      | (go_at_call 9; (with_reducible refine (c9 _).mono ?_); rintro e w' ⟨rfl, rfl⟩)
      | fail)
    have hB0 := Both.new hb1
    generalize hWN : World.alloc (World.alloc (World.alloc _ _) _) _ = WN at *
    have hwb : Below w.heap.size w WN := hB0.ref.old
    have HB0 := Lib.hid hB0
    clear hWN hB0
    generalize w'.heap.size = X at *
    go_loopw [5] (fun i wr => PlaysRel w (X + 1) (X + 2) os i wr) (fun i _ => os.length - (intOf i).toNat)
    case atStart => exact ⟨0, by omega, rfl, _, _, _, _, HB0.out, by simp⟩
    case round =>
      obtain ⟨j, hj, rfl, s, lv, B, L, hB, hL⟩ := hrel
      rcases Nat.lt_or_ge j os.length with hlt | hge
      · obtain ⟨b, o, q, rfl, hbl, hq, hop⟩ := HV.out.opS hlt
        have hwr := hB.ref.old.size
        have hbr : b < wr.heap.size := Nat.lt_of_lt_of_le hbl hwr
        have hqm := List.mem_of_getElem? hq
        have h17 := c17 hB.drew (by omega) (by omega) q (HO.out q hqm) (HM.out q hqm)
        have hjl : (j : Int) < (os.length : Int) := by omega
        have HB := Lib.hid hB
        have HOP := Lib.hid hop
        clear hB hop hq hqm
        go_wp2_with fail
        refine wp_region_noPanic ?_
        refine till_start (OpS b (o + j * 6) q) 17 (by kernel_rfl) ?_
        have hS := HOP.out.below HB.out.drew.ref.old hbl
        show AnyTill _ _ _ _ _ _ 18 (Array.replicate 18 false) _ _
        refine till_take 0 (v := ?_) rfl (by kernel_rfl) (fun _ _ _ h => h) (Or.inl ⟨by rfl, ?_⟩) hS ?_
        rotate_left
        focus (intro w' hSw; obtain ⟨k0, k1, k2, k3, k4, k5⟩ := hSw; go_simp; try (with_reducible rfl))
        try simp only [Act.put, List.setIfInBounds_toArray, List.set_cons_zero, List.set_cons_succ]
        refine till_take 1 (v := ?_) rfl (by kernel_rfl) (fun _ _ _ h => h) (Or.inl ⟨by rfl, ?_⟩) hS ?_
        rotate_left
        focus (intro w' hSw; obtain ⟨k0, k1, k2, k3, k4, k5⟩ := hSw; go_simp; try (with_reducible rfl))
        try simp only [Act.put, List.setIfInBounds_toArray, List.set_cons_zero, List.set_cons_succ]
        refine till_take 2 (v := ?_) rfl (by kernel_rfl) (fun _ _ _ h => h) (Or.inl ⟨by rfl, ?_⟩) hS ?_
        rotate_left
        focus (intro w' hSw; obtain ⟨k0, k1, k2, k3, k4, k5⟩ := hSw; go_simp; try (with_reducible rfl))
        try simp only [Act.put, List.setIfInBounds_toArray, List.set_cons_zero, List.set_cons_succ]
        refine till_take 3 (v := ?_) rfl (by kernel_rfl) (fun _ _ _ h => h) (Or.inl ⟨by rfl, ?_⟩) hS ?_
        rotate_left
        focus (intro w' hSw; obtain ⟨k0, k1, k2, k3, k4, k5⟩ := hSw; go_simp; try (with_reducible rfl))
        try simp only [Act.put, List.setIfInBounds_toArray, List.set_cons_zero, List.set_cons_succ]
        refine till_take 4 (v := ?_) rfl (by kernel_rfl) (fun _ _ _ h => h) (Or.inl ⟨by rfl, ?_⟩) hS ?_
        rotate_left
        focus (intro w' hSw; obtain ⟨k0, k1, k2, k3, k4, k5⟩ := hSw; go_simp; try (with_reducible rfl))
        try simp only [Act.put, List.setIfInBounds_toArray, List.set_cons_zero, List.set_cons_succ]
        refine till_take 5 (v := ?_) rfl (by kernel_rfl) (fun _ _ _ h => h) (Or.inl ⟨by rfl, ?_⟩) hS ?_
        rotate_left
        focus (intro w' hSw; obtain ⟨k0, k1, k2, k3, k4, k5⟩ := hSw; go_simp; try (with_reducible rfl))
        try simp only [Act.put, List.setIfInBounds_toArray, List.set_cons_zero, List.set_cons_succ]
        refine till_ready [6] (by kernel_rfl) (TillReady.cons 6 rfl (fun K hK => ?_) TillReady.nil)
        go_simp
        refine h17.mono ?_
        rintro e w2 ⟨rfl, s2, lv2, B2, L2, hB2, hl2⟩
        obtain ⟨a2, c2, rfl⟩ := hB2.ref.len
        have h12 := c12 hB2.net (by omega)
        have HB2 := Lib.hid hB2
        clear hB2
        have hS := HOP.out.below HB2.out.ref.old hbl
        refine (Hid.out hK) _ _ (fun _ => hS) ?_
        try simp only [Act.put, List.setIfInBounds_toArray, List.set_cons_zero, List.set_cons_succ]
        refine till_take 7 (v := ?_) rfl (by kernel_rfl) (fun _ _ _ h => h) (Or.inl ⟨by rfl, ?_⟩) hS ?_
        rotate_left
        focus (intro w' hSw; obtain ⟨k0, k1, k2, k3, k4, k5⟩ := hSw; go_simp; try (with_reducible rfl))
        try simp only [Act.put, List.setIfInBounds_toArray, List.set_cons_zero, List.set_cons_succ]
        refine till_take 8 (v := ?_) rfl (by kernel_rfl) (fun _ _ _ h => h) (Or.inl ⟨by rfl, ?_⟩) hS ?_
        rotate_left
        focus (intro w' hSw; obtain ⟨k0, k1, k2, k3, k4, k5⟩ := hSw; go_simp; try (with_reducible rfl))
        try simp only [Act.put, List.setIfInBounds_toArray, List.set_cons_zero, List.set_cons_succ]
        refine AnyTill.weaken (S' := OpSY b (o + j * 6) q (X + 2) (.slice a2 L2.length c2)) (fun _ h => h.1) _ _ _ _ ?_
        have hS := (⟨hS, HB2.out.ref.box.cell (j := 0) rfl⟩ : OpSY b (o + j * 6) q (X + 2) (.slice a2 L2.length c2) w2)
        refine till_take 9 (v := ?_) rfl (by kernel_rfl) (fun _ _ _ h => h) (Or.inl ⟨by rfl, ?_⟩) hS ?_
        rotate_left
        focus (intro w' hSw; obtain ⟨⟨k0, k1, k2, k3, k4, k5⟩, k6⟩ := hSw; go_simp; try (with_reducible rfl))
        try simp only [Act.put, List.setIfInBounds_toArray, List.set_cons_zero, List.set_cons_succ]
        refine till_take 11 (v := ?_) rfl (by kernel_rfl) (fun _ _ _ h => h) (Or.inl ⟨by rfl, ?_⟩) hS ?_
        rotate_left
        focus (intro w' hSw; obtain ⟨⟨k0, k1, k2, k3, k4, k5⟩, k6⟩ := hSw; go_simp; try (with_reducible rfl))
        try simp only [Act.put, List.setIfInBounds_toArray, List.set_cons_zero, List.set_cons_succ]
        refine till_take 12 (v := ?_) rfl (by kernel_rfl) (fun _ _ _ h => h) (Or.inl ⟨by rfl, ?_⟩) hS ?_
        rotate_left
        focus (intro w' hSw; obtain ⟨⟨k0, k1, k2, k3, k4, k5⟩, k6⟩ := hSw; go_simp; try (with_reducible rfl))
        try simp only [Act.put, List.setIfInBounds_toArray, List.set_cons_zero, List.set_cons_succ]
        refine till_take 13 (v := ?_) rfl (by kernel_rfl) (fun _ _ _ h => h) (Or.inl ⟨by rfl, ?_⟩) hS ?_
        rotate_left
        focus (intro w' hSw; obtain ⟨⟨k0, k1, k2, k3, k4, k5⟩, k6⟩ := hSw; go_simp; try (with_reducible rfl))
        try simp only [Act.put, List.setIfInBounds_toArray, List.set_cons_zero, List.set_cons_succ]
        refine till_take 14 (v := ?_) rfl (by kernel_rfl) (fun _ _ _ h => h) (Or.inl ⟨by rfl, ?_⟩) hS ?_
        rotate_left
        focus (intro w' hSw; obtain ⟨⟨k0, k1, k2, k3, k4, k5⟩, k6⟩ := hSw; go_simp; try (with_reducible rfl))
        try simp only [Act.put, List.setIfInBounds_toArray, List.set_cons_zero, List.set_cons_succ]
        refine till_take 15 (v := ?_) rfl (by kernel_rfl) (fun _ _ _ h => h) (Or.inl ⟨by rfl, ?_⟩) hS ?_
        rotate_left
        focus (intro w' hSw; obtain ⟨⟨k0, k1, k2, k3, k4, k5⟩, k6⟩ := hSw; go_simp; try (with_reducible rfl))
        try simp only [Act.put, List.setIfInBounds_toArray, List.set_cons_zero, List.set_cons_succ]
        refine till_ready [10] (by kernel_rfl) (TillReady.cons 10 rfl (fun K hK => ?_) TillReady.nil)
        go_simp
        refine h12.mono ?_
        rintro e w3 ⟨ks, rfl, hk1, hk2, hk3, hb3⟩
        rw [HB2.out.count hk1 hk2]
        have HB3 := Lib.hid (HB2.out.below hb3)
        clear hk1 hk2 hk3 hb3
        have hS := (⟨HOP.out.below HB3.out.ref.old hbl, HB3.out.ref.box.cell (j := 0) rfl⟩ : OpSY b (o + j * 6) q (X + 2) (.slice a2 L2.length c2) w3)
        refine (Hid.out hK) _ _ (fun _ => hS) ?_
        try simp only [Act.put, List.setIfInBounds_toArray, List.set_cons_zero, List.set_cons_succ]
        refine till_take 16 (v := ?_) rfl (by kernel_rfl) (fun _ _ _ h => h) (Or.inl ⟨by rfl, ?_⟩) hS ?_
        rotate_left
        focus (intro w' hSw; obtain ⟨⟨k0, k1, k2, k3, k4, k5⟩, k6⟩ := hSw; go_simp; try (with_reducible rfl))
        try simp only [Act.put, List.setIfInBounds_toArray, List.set_cons_zero, List.set_cons_succ]
        refine till_ready [17] (by kernel_rfl) (TillReady.cons 17 rfl (fun K hK => ?_) TillReady.nil)
        go_simp
        refine (Hid.out hK) _ _ (fun h => absurd rfl h) ?_
        refine till_done (by kernel_rfl) ?_
        refine NoPanic.normal ?_
        go_wp2
        go_tidy
        exact ⟨⟨j + 1, by omega, rfl, _, _, _, _, HB3.out, by omega⟩, by simp [intOf]; omega⟩
      · obtain rfl : j = os.length := by omega
        have h15 := c15f hB.net (by omega)
        have hsame := hB.same
        have HB := Lib.hid hB
        have HSM := Lib.hid hsame
        clear hB hsame
        go_wp2_with (first
          | (go_at_call 15
             refine h15.mono ?_
             rintro e w2 ⟨v, ks, rfl, hrow, hp, hm, hkl, hb2, -⟩
             obtain ⟨la, lc, rfl, -⟩ := id hrow
             have HB2 := Lib.hid (HB.out.below hb2)
             have HW2 := Lib.hid hrow
             have HP := Lib.hid hp
             have HK := Lib.hid hm
             clear hrow hp hm hb2)
          | (go_at_call 18
             refine (c18 HB2.out.ref (by omega)).mono ?_
             rintro e w3 ⟨v, ls, rfl, hrow, hp, hm, hll, hb3⟩
             obtain rfl : ls = ks := links_eq hp HP.out (fun k => by rw [hm, HK.out, mem_keysOf, HSM.out])
             obtain ⟨ra, rc, rfl, -⟩ := id hrow
             have HB3 := Lib.hid (HB2.out.below hb3)
             have HW3 := Lib.hid (HW2.out.keep hb3)
             have HR3 := Lib.hid hrow
             clear hrow hp hm hb3)
          | fail)
        go_loopw [8] (fun i wr2 => ∃ m : Nat, m ≤ ls.length ∧ i = .int .i64 m ∧ Below w3.heap.size w3 wr2) (fun i _ => ls.length - (intOf i).toNat)
        case atStart => exact ⟨0, by omega, rfl, Below.refl _ _⟩
        case round =>
          obtain ⟨m, hm, rfl, hb4⟩ := hrel
          rcases Nat.lt_or_ge m ls.length with hlt2 | hge2
          · obtain ⟨b1, o1, f, t, rfl, hl1, hk1, hc1, hc2⟩ := HW3.out.linkAt hlt2
            obtain ⟨b2, o2, f2, t2, rfl, hl2, hk2, hc3, hc4⟩ := HR3.out.linkAt hlt2
            rw [hk1] at hk2
            injection hk2 with hk2
            injection hk2 with e1 e2
            subst e1 e2
            rw [← hb4.cell (p := ⟨b1, o1 + m * 2, none⟩) hl1] at hc1
            rw [← hb4.cell (p := ⟨b1, o1 + m * 2 + 1, none⟩) hl1] at hc2
            rw [← hb4.cell (p := ⟨b2, o2 + m * 2, none⟩) hl2] at hc3
            rw [← hb4.cell (p := ⟨b2, o2 + m * 2 + 1, none⟩) hl2] at hc4
            have hb1r : b1 < wr.heap.size := Nat.lt_of_lt_of_le hl1 hb4.size
            have hb2r : b2 < wr.heap.size := Nat.lt_of_lt_of_le hl2 hb4.size
            have hml : (m : Int) < (ls.length : Int) := by omega
            have hB4 := (HB3.out.below hb4).drew
            have hsm : ∀ b ∈ B (f, t), b.length ≤ 1000 := by rw [hB4.same]; exact bag_small hB4.ref (f, t)
            have hcl := cnt_le (f, t) L
            have h20 := c20 hB4.net f t hsm
            have HB4 := Lib.hid hB4
            have H34 := Lib.hid hb4
            have HSM4 := Lib.hid hsm
            have HC1 := Lib.hid hc1
            have HC2 := Lib.hid hc2
            have HC3 := Lib.hid hc3
            have HC4 := Lib.hid hc4
            clear hB4 hb4 hk1 hsm
            go_wp2_with fail
            go_region_held3 (fun w' => w'.cell? ⟨b1, o1 + m * 2, none⟩ = some (.int .i64 f) ∧ w'.cell? ⟨b1, o1 + m * 2 + 1, none⟩ = some (.int .i64 t) ∧ w'.cell? ⟨b2, o2 + m * 2, none⟩ = some (.int .i64 f) ∧ w'.cell? ⟨b2, o2 + m * 2 + 1, none⟩ = some (.int .i64 t))
              (first | exact ⟨hd1, hd2, hd3, hd4⟩ | exact ⟨hg1, hg2, hg3, hg4⟩ | go_keep | fail)
              (first
                | (go_at_call 20
                   refine h20.mono ?_
                   rintro e w5 ⟨v5, rfl, hO5, hb5⟩
                   have hd1 : w5.cell? ⟨b1, o1 + m * 2, none⟩ = some (.int .i64 f) := by rw [hb5.cell (p := ⟨b1, o1 + m * 2, none⟩) hb1r]; exact HC1.out
                   have hd2 : w5.cell? ⟨b1, o1 + m * 2 + 1, none⟩ = some (.int .i64 t) := by rw [hb5.cell (p := ⟨b1, o1 + m * 2 + 1, none⟩) hb1r]; exact HC2.out
                   have hd3 : w5.cell? ⟨b2, o2 + m * 2, none⟩ = some (.int .i64 f) := by rw [hb5.cell (p := ⟨b2, o2 + m * 2, none⟩) hb2r]; exact HC3.out
                   have hd4 : w5.cell? ⟨b2, o2 + m * 2 + 1, none⟩ = some (.int .i64 t) := by rw [hb5.cell (p := ⟨b2, o2 + m * 2 + 1, none⟩) hb2r]; exact HC4.out
                   have HB5 := Lib.hid (HB4.out.below hb5)
                   have H45 := Lib.hid (H34.out.drew.trans (hb5.mono H34.out.size))
                   have HV5 := Lib.hid hO5.row
                   clear hO5 hb5)
                | (go_at_call 21
                   refine (c21 HB5.out.ref (by omega) f t).mono ?_
                   rintro e w6 ⟨v6, rfl, hT6, hb6⟩
                   have hg1 : w6.cell? ⟨b1, o1 + m * 2, none⟩ = some (.int .i64 f) := by rw [hb6.cell (p := ⟨b1, o1 + m * 2, none⟩) (Nat.lt_of_lt_of_le hl1 H45.out.size)]; exact hd1
                   have hg2 : w6.cell? ⟨b1, o1 + m * 2 + 1, none⟩ = some (.int .i64 t) := by rw [hb6.cell (p := ⟨b1, o1 + m * 2 + 1, none⟩) (Nat.lt_of_lt_of_le hl1 H45.out.size)]; exact hd2
                   have hg3 : w6.cell? ⟨b2, o2 + m * 2, none⟩ = some (.int .i64 f) := by rw [hb6.cell (p := ⟨b2, o2 + m * 2, none⟩) (Nat.lt_of_lt_of_le hl2 H45.out.size)]; exact hd3
                   have hg4 : w6.cell? ⟨b2, o2 + m * 2 + 1, none⟩ = some (.int .i64 t) := by rw [hb6.cell (p := ⟨b2, o2 + m * 2 + 1, none⟩) (Nat.lt_of_lt_of_le hl2 H45.out.size)]; exact hd4
                   have HB6 := Lib.hid (HB5.out.below hb6)
                   have H46 := Lib.hid (H45.out.trans (hb6.mono H45.out.size))
                   have HV6 := Lib.hid (HV5.out.below hb6)
                   have HT6 := Lib.hid (rbag_row HB6.out.ref HB6.out.ref.old (f, t) hT6)
                   clear hT6 hb6)
                | (go_at_call 19
                   refine (c19 (c37 HV6.out HT6.out (by rw [HB6.out.same, bagOf_len]; omega) (by rw [bagOf_len]; omega) HSM4.out (bag_small HB6.out.ref (f, t)))).mono ?_
                   rintro e w7 ⟨n7, rfl, rfl⟩
                   rw [HB6.out.same]
                   simp only [decide_true])
                | fail)
            go_wp2
            go_tidy
            exact ⟨⟨m + 1, by omega, rfl, below_drewN H46.out n7⟩, by simp [intOf]; omega⟩
          · obtain rfl : m = ls.length := by omega
            have H34 := Lib.hid hb4
            clear hb4
            go_wp2
            go_tidy
            exact ⟨rfl, HB3.out.ref.old.trans (H34.out.mono HB3.out.ref.old.size)⟩
theorem cellsOf_op (o : OpV) : o.cells.length = 6 := rfl
set_option maxRecDepth 100000 in
theorem opensOps {H : Type} (E : TypeId × Value → H) (w : World) : Opens E Try.prog w 41 fun cs => ∃ (v : Value) (os : List OpV), (∀ o ∈ os, o.ok w) ∧ cs = [v] ∧ RowOf OpV.cells 6 w v os :=
  opens_slice Try.underlying41 cells49 (by decide) cellsOf_op ((opensOp E w).mono fun _ ⟨o, h1, h2⟩ => ⟨o, h1, h2⟩)
set_option maxRecDepth 100000 in
theorem playsWalk (v0 : Value) (w : World) (a0 : ArgAt Try.prog 41 v0 w) : Calls Try.prog 6 #[v0] w fun e w' => e = .returned (.bool true) ∧ Below w.heap.size w w' := by
  obtain ⟨v, os, hok, he, hr⟩ := a0.slice Try.underlying41 fun _ E => opensOps E w
  simp at he
  subst he
  obtain ⟨a, cap, hv, _⟩ := id hr
  rw [hv] at hr ⊢
  exact c6 a cap os w hr hok
end Go.Proofs.Ytkkambhkfegodaa
