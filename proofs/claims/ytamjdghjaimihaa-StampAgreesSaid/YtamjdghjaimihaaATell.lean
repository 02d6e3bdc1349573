/- A group's stamp is told to another one, which then takes what is next. Conditions: each law's own. -/
import Derived.Test.YtamjdghjaimihaaATake
namespace Go.Proofs.Ytamjdghjaimihaa
open Go.ChangeShapes Go.WideShapes Go.ChangeAt Go.RowKit

theorem Good.learn {w w' : World} {c : Nat} {m : CM} {B : Nat} (h : Good w c m B) {tt fr : Nat} (ht : tt < 4) {a : OneD} (ha : a ∈ allOf m) (hne : fr ≠ tt) (hm : (fr : Int) ∈ a.groups) {M' : List MemO} {v' : Value}
    (hc : CAt w' c 4 { m with S := upd m.S tt (learnS tt (m.S tt) a.id fr (a.kn fr)).2, M := upd m.M tt M', v := upd m.v tt v' } B) :
    Good w' c { m with S := upd m.S tt (learnS tt (m.S tt) a.id fr (a.kn fr)).2, M := upd m.M tt M', v := upd m.v tt v' } B ∧
      Goes m { m with S := upd m.S tt (learnS tt (m.S tt) a.id fr (a.kn fr)).2, M := upd m.M tt M', v := upd m.v tt v' } ∧ Knows (learnS tt (m.S tt) a.id fr (a.kn fr)).2 a.id fr := by
  obtain ⟨h1, h2, h3, h4⟩ := (h.take tt ht).learn (k := fr) (by omega) h.all h.apart ha (by omega) hm
  refine ⟨⟨hc, h.tu, h.all, h.apart, h.small, fun i hi => ?_, fun i hi => ?_⟩, ⟨rfl, rfl, fun i => ?_⟩, h3⟩
  · simp only [upd]
    split
    · rename_i e; subst e; exact h1
    · exact h.take i hi
  · simp only [upd]
    split
    · rename_i e; subst e; have := h.few i hi; omega
    · exact h.few i hi
  · simp only [upd]
    split
    · rename_i e; subst e; exact h2
    · exact .refl _
def TellEnd (c : Nat) (m : CM) (B : Nat) (a : OneD) (fr tt : Nat) (w : World) (e : Ending) (w' : World) : Prop :=
  e = .returned (.tuple #[]) ∧ ∃ m', Good w' c m' B ∧ Goes m m' ∧ ((fr ≠ tt ∧ (fr : Int) ∈ a.groups ∧ (tt : Int) ∈ a.groups) → Knows (m'.S tt) a.id fr) ∧
    ((∀ b ∈ allOf m, ∀ k ∈ b.groups, (tt : Int) ∈ b.groups → k ≠ (tt : Int) → Knows (m.S tt) b.id k ∨ (b = a ∧ k = (fr : Int))) → (m'.S tt).L = []) ∧ Below B w w'
theorem encR_kn (z : RefO) {f : Nat} (hf : f < 4) : (encR z)[3 + f]? = some (.int .u64 (z.1.kn f)) := by
  obtain rfl | rfl | rfl | rfl : f = 0 ∨ f = 1 ∨ f = 2 ∨ f = 3 := by omega
  all_goals rfl
def TelS (c tt n : Nat) (p : Value) (us : List Value) (W : World) : Prop := W.cell? ⟨c, tt, none⟩ = some p ∧ c < W.heap.size ∧ VarAt W n 55 us
set_option maxHeartbeats 8000000 in
set_option maxRecDepth 1000000 in
theorem c19 {w : World} {c : Nat} {m : CM} {B : Nat} (h : Good w c m B) {z : RefO} (hz : z ∈ m.A) {fr tt : Nat} (hf : fr < 4) (ht : tt < 4) :
    Calls Try.prog 19 #[.pointer (some ⟨c, 0, none⟩), oneV z, .int .i64 fr, .int .i64 tt] w (TellEnd c m B z.1 fr tt w) := by
  refine gen (S := TellEnd c m B z.1 fr tt w) fun R hR => ?_
  have ha : z.1 ∈ allOf m := List.mem_map_of_mem hz
  have hlow := h.at4.low1
  have fin : ∀ W m1, Good W c m1 B → Goes m m1 → Below B w W → ((fr ≠ tt ∧ (fr : Int) ∈ z.1.groups ∧ (tt : Int) ∈ z.1.groups) → Knows (m1.S tt) z.1.id fr) →
      ((∀ b ∈ allOf m, ∀ k ∈ b.groups, (tt : Int) ∈ b.groups → k ≠ (tt : Int) → Knows (m.S tt) b.id k ∨ (b = z.1 ∧ k = (fr : Int))) → ∀ b ∈ allOf m, ∀ k ∈ b.groups, (tt : Int) ∈ b.groups → k ≠ (tt : Int) → Knows (m1.S tt) b.id k) →
      Calls Try.prog 39 #[.pointer (some ⟨c, 0, none⟩), .int .i64 tt] W fun e w' => e = .returned (.tuple #[]) ∧ R (.returned (.tuple #[])) w' := fun W m1 hG hgo hb hk hall => by
    refine (c39 hG ht).mono ?_
    rintro e w' ⟨rfl, m2, hG2, hgo2, hnil, hb2⟩
    have hA : allOf m1 = allOf m := by unfold allOf; rw [hgo.A]
    exact ⟨rfl, hR _ _ ⟨rfl, m2, hG2, hgo.trans hgo2, fun hc => (hgo2.behind tt).knows (hk hc), fun hh => hnil (all_final (hG.take tt ht) (by rw [hA]; exact hall hh)), hb.trans hb2⟩⟩
  have still : ¬ (fr ≠ tt ∧ (fr : Int) ∈ z.1.groups ∧ (tt : Int) ∈ z.1.groups) → ∀ W, Below w.heap.size w W → Calls Try.prog 39 #[.pointer (some ⟨c, 0, none⟩), .int .i64 tt] W fun e w' => e = .returned (.tuple #[]) ∧ R (.returned (.tuple #[])) w' := fun hno W hb =>
    fin W m (h.below hb) (Goes.refl m) (hb.mono hlow) (fun hc => absurd hc hno) fun hh b hbm k hk ht' hne => (hh b hbm k hk ht' hne).resolve_right fun ⟨h1, h2⟩ => hno ⟨fun e => hne (by rw [h2, e]), by subst h1; exact h2 ▸ hk, h1 ▸ ht'⟩
  have hgr := fun W (hb : Below w.heap.size w W) => owns_rowG ((h.below hb).at4.gs z hz)
  obtain ⟨n1, hn1⟩ : ∃ n, n = w.heap.size := ⟨_, rfl⟩
  obtain ⟨W1, hW1⟩ : ∃ W1 : World, W1 = w.alloc (.cells #[.int .i64 z.1.id.s, .int .i64 z.1.id.q, z.2, .int .u64 (z.1.kn 0), .int .u64 (z.1.kn 1), .int .u64 (z.1.kn 2), .int .u64 (z.1.kn 3)] 55) := ⟨_, rfl⟩
  have hb1 : Below w.heap.size w W1 := by rw [hW1]; exact (Below.refl _ _).alloc (Nat.le_refl _) _
  have hN1 : VarAt W1 n1 55 (encR z) := by rw [hW1, hn1]; exact VarAt.new w 55 _
  have hci := fun W (hb : Below w.heap.size w W) (x : Int) => c38 (hgr W hb) x
  have CI := Lib.hid hci
  have FIN := Lib.hid fin
  have STILL := Lib.hid still
  have HN1 := Lib.hid hN1
  have HB1 := Lib.hid hb1
  have H := Lib.hid h
  have HZ := Lib.hid hz
  have HA := Lib.hid ha
  have HW1 := Lib.hid hW1
  have HN := Lib.hid hn1
  have hfi : (fr : Int) < 4 := by omega
  have hti : (tt : Int) < 4 := by omega
  have hf0 : ¬ (fr : Int) < 0 := by omega
  have ht0 : ¬ (tt : Int) < 0 := by omega
  have nl := hN1.lt
  have n2 := hN1.cell (j := 2) rfl
  clear hR h hz ha fin still hgr hci hW1 hn1 hN1 hb1
  by_cases hne : fr = tt
  · have hneI : ((fr : Int) != (tt : Int)) = false := by rw [hne]; simp
    have hneI2 : ((fr : Int) == (tt : Int)) = true := by rw [hne]; simp
    have ST := Lib.hid (STILL.out fun hc => hc.1 hne)
    unfold oneV
    go_enter Try.func19, Try.ntmps19
    go_upto_region 1 with fail
    rw [← HW1.out, ← HN.out]
    go_wp2_with fail
    refine (ST.out _ HB1.out).mono ?_
    rintro e w2 ⟨rfl, hr⟩
    have HRR := Lib.hid hr
    clear hr
    go_wp2_with fail
    refine bodyPost_end (results_none rfl _ _ _) rfl HRR.out
  · have hneI : ((fr : Int) != (tt : Int)) = true := by simp; omega
    have hneI2 : ((fr : Int) == (tt : Int)) = false := by simp; omega
    by_cases h1 : (fr : Int) ∈ z.1.groups
    · have hd1 : decide ((fr : Int) ∈ z.1.groups) = true := decide_eq_true h1
      have C1 := Lib.hid (CI.out W1 HB1.out fr)
      rw [hd1] at C1
      by_cases h2 : (tt : Int) ∈ z.1.groups
      · have hd2 : decide ((tt : Int) ∈ z.1.groups) = true := decide_eq_true h2
        have C2 := Lib.hid (CI.out W1 HB1.out tt)
        rw [hd2] at C2
        have HC := Lib.hid (And.intro h1 h2)
        clear h1 h2 hd1 hd2
        unfold oneV
        go_enter Try.func19, Try.ntmps19
        go_upto_region 1 with fail
        rw [← HW1.out, ← HN.out]
        go_upto_region 2 with fail
        refine C1.out.mono ?_
        rintro e w2 ⟨rfl, rfl⟩
        go_upto_region 2 with fail
        refine C2.out.mono ?_
        rintro e w2 ⟨rfl, rfl⟩
        go_upto_region 2 with fail
        have h2 := H.out.below HB1.out
        have hb2d : Below w2.heap.size w2 w2.drew := (Below.refl _ _).drew
        have hMl : (m.M tt).length ≤ 1000 := by have h3 := H.out.few tt ht; have h4 := (H.out.at4.q tt ht).len; have h5 := H.out.small; omega
        have h31 := c31 ((h2.at4.q tt ht).below hb2d) z.1.id fr (z.1.kn fr) hMl
        have hS0 : TelS c tt n1 (.pointer (some ⟨m.x tt, 0, none⟩)) (encR z) w2.drew := ⟨by rw [← h2.at4.ptr tt ht]; exact (h2.at4.box.keep hb2d h2.at4.box.lt).cell (encC_at m ht).1, by simpa using h2.at4.box.lt, HN1.out.keep hb2d HN1.out.lt⟩
        have H31 := Lib.hid h31
        have H2 := Lib.hid h2
        have FR := Lib.hid hf
        clear h2 hb2d h31 nl n2 CI C1 C2 STILL
        refine wp_region_noPanic ?_
        refine till_start (TelS c tt n1 (.pointer (some ⟨m.x tt, 0, none⟩)) (encR z)) 13 (by kernel_rfl) ?_
        have hS := hS0
        show AnyTill _ _ _ _ _ _ 14 (Array.replicate 14 false) _ _
        refine till_take 0 (v := ?_) rfl (by kernel_rfl) (fun _ _ _ h => h) (Or.inl ⟨by rfl, ?_⟩) hS ?_
        rotate_left
        focus (intro w' hSw; obtain ⟨q1, ql, hN⟩ := hSw; have q2 := hN.cell (j := 0) rfl; have q3 := hN.cell (j := 1) rfl; have q4 := hN.cell (encR_kn z FR.out); have nl := hN.lt; clear hN; go_simp; try (with_reducible rfl))
        try simp only [Act.put, List.setIfInBounds_toArray, List.set_cons_zero, List.set_cons_succ]
        refine till_take 1 (v := ?_) rfl (by kernel_rfl) (fun _ _ _ h => h) (Or.inl ⟨by rfl, ?_⟩) hS ?_
        rotate_left
        focus (intro w' hSw; obtain ⟨q1, ql, hN⟩ := hSw; have q2 := hN.cell (j := 0) rfl; have q3 := hN.cell (j := 1) rfl; have q4 := hN.cell (encR_kn z FR.out); have nl := hN.lt; clear hN; go_simp; try (with_reducible rfl))
        try simp only [Act.put, List.setIfInBounds_toArray, List.set_cons_zero, List.set_cons_succ]
        refine till_take 2 (v := ?_) rfl (by kernel_rfl) (fun _ _ _ h => h) (Or.inl ⟨by rfl, ?_⟩) hS ?_
        rotate_left
        focus (intro w' hSw; obtain ⟨q1, ql, hN⟩ := hSw; have q2 := hN.cell (j := 0) rfl; have q3 := hN.cell (j := 1) rfl; have q4 := hN.cell (encR_kn z FR.out); have nl := hN.lt; clear hN; go_simp; try (with_reducible rfl))
        try simp only [Act.put, List.setIfInBounds_toArray, List.set_cons_zero, List.set_cons_succ]
        refine till_take 3 (v := ?_) rfl (by kernel_rfl) (fun _ _ _ h => h) (Or.inl ⟨by rfl, ?_⟩) hS ?_
        rotate_left
        focus (intro w' hSw; obtain ⟨q1, ql, hN⟩ := hSw; have q2 := hN.cell (j := 0) rfl; have q3 := hN.cell (j := 1) rfl; have q4 := hN.cell (encR_kn z FR.out); have nl := hN.lt; clear hN; go_simp; try (with_reducible rfl))
        try simp only [Act.put, List.setIfInBounds_toArray, List.set_cons_zero, List.set_cons_succ]
        refine till_take 4 (v := ?_) rfl (by kernel_rfl) (fun _ _ _ h => h) (Or.inl ⟨by rfl, ?_⟩) hS ?_
        rotate_left
        focus (intro w' hSw; obtain ⟨q1, ql, hN⟩ := hSw; have q2 := hN.cell (j := 0) rfl; have q3 := hN.cell (j := 1) rfl; have q4 := hN.cell (encR_kn z FR.out); have nl := hN.lt; clear hN; go_simp; try (with_reducible rfl))
        try simp only [Act.put, List.setIfInBounds_toArray, List.set_cons_zero, List.set_cons_succ]
        refine till_take 5 (v := ?_) rfl (by kernel_rfl) (fun _ _ _ h => h) (Or.inl ⟨by rfl, ?_⟩) hS ?_
        rotate_left
        focus (intro w' hSw; obtain ⟨q1, ql, hN⟩ := hSw; have q2 := hN.cell (j := 0) rfl; have q3 := hN.cell (j := 1) rfl; have q4 := hN.cell (encR_kn z FR.out); have nl := hN.lt; clear hN; go_simp; try (with_reducible rfl))
        try simp only [Act.put, List.setIfInBounds_toArray, List.set_cons_zero, List.set_cons_succ]
        refine till_take 6 (v := ?_) rfl (by kernel_rfl) (fun _ _ _ h => h) (Or.inl ⟨by rfl, ?_⟩) hS ?_
        rotate_left
        focus (intro w' hSw; obtain ⟨q1, ql, hN⟩ := hSw; have q2 := hN.cell (j := 0) rfl; have q3 := hN.cell (j := 1) rfl; have q4 := hN.cell (encR_kn z FR.out); have nl := hN.lt; clear hN; go_simp; try (with_reducible rfl))
        try simp only [Act.put, List.setIfInBounds_toArray, List.set_cons_zero, List.set_cons_succ]
        refine till_take 7 (v := ?_) rfl (by kernel_rfl) (fun _ _ _ h => h) (Or.inl ⟨by rfl, ?_⟩) hS ?_
        rotate_left
        focus (intro w' hSw; obtain ⟨q1, ql, hN⟩ := hSw; have q2 := hN.cell (j := 0) rfl; have q3 := hN.cell (j := 1) rfl; have q4 := hN.cell (encR_kn z FR.out); have nl := hN.lt; clear hN; go_simp; try (with_reducible rfl))
        try simp only [Act.put, List.setIfInBounds_toArray, List.set_cons_zero, List.set_cons_succ]
        refine till_take 8 (v := ?_) rfl (by kernel_rfl) (fun _ _ _ h => h) (Or.inl ⟨by rfl, ?_⟩) hS ?_
        rotate_left
        focus (intro w' hSw; obtain ⟨q1, ql, hN⟩ := hSw; have q2 := hN.cell (j := 0) rfl; have q3 := hN.cell (j := 1) rfl; have q4 := hN.cell (encR_kn z FR.out); have nl := hN.lt; clear hN; go_simp; try (with_reducible rfl))
        try simp only [Act.put, List.setIfInBounds_toArray, List.set_cons_zero, List.set_cons_succ]
        refine till_take 9 (v := ?_) rfl (by kernel_rfl) (fun _ _ _ h => h) (Or.inl ⟨by rfl, ?_⟩) hS ?_
        rotate_left
        focus (intro w' hSw; obtain ⟨q1, ql, hN⟩ := hSw; have q2 := hN.cell (j := 0) rfl; have q3 := hN.cell (j := 1) rfl; have q4 := hN.cell (encR_kn z FR.out); have nl := hN.lt; clear hN; go_simp; try (with_reducible rfl))
        try simp only [Act.put, List.setIfInBounds_toArray, List.set_cons_zero, List.set_cons_succ]
        refine till_take 10 (v := ?_) rfl (by kernel_rfl) (fun _ _ _ h => h) (Or.inl ⟨by rfl, ?_⟩) hS ?_
        rotate_left
        focus (intro w' hSw; obtain ⟨q1, ql, hN⟩ := hSw; have q2 := hN.cell (j := 0) rfl; have q3 := hN.cell (j := 1) rfl; have q4 := hN.cell (encR_kn z FR.out); have nl := hN.lt; clear hN; go_simp; try (with_reducible rfl))
        try simp only [Act.put, List.setIfInBounds_toArray, List.set_cons_zero, List.set_cons_succ]
        refine till_take 11 (v := ?_) rfl (by kernel_rfl) (fun _ _ _ h => h) (Or.inl ⟨by rfl, ?_⟩) hS ?_
        rotate_left
        focus (intro w' hSw; obtain ⟨q1, ql, hN⟩ := hSw; have q2 := hN.cell (j := 0) rfl; have q3 := hN.cell (j := 1) rfl; have q4 := hN.cell (encR_kn z FR.out); have nl := hN.lt; clear hN; go_simp; try (with_reducible rfl))
        try simp only [Act.put, List.setIfInBounds_toArray, List.set_cons_zero, List.set_cons_succ]
        refine till_take 12 (v := ?_) rfl (by kernel_rfl) (fun _ _ _ h => h) (Or.inl ⟨by rfl, ?_⟩) hS ?_
        rotate_left
        focus (intro w' hSw; obtain ⟨q1, ql, hN⟩ := hSw; have q2 := hN.cell (j := 0) rfl; have q3 := hN.cell (j := 1) rfl; have q4 := hN.cell (encR_kn z FR.out); have nl := hN.lt; clear hN; go_simp; try (with_reducible rfl))
        try simp only [Act.put, List.setIfInBounds_toArray, List.set_cons_zero, List.set_cons_succ]
        refine till_ready [13] (by kernel_rfl) (TillReady.cons 13 rfl (fun K hK => ?_) TillReady.nil)
        go_simp
        refine H31.out.mono ?_
        rintro e w5 ⟨rfl, M5, v5, hq5, hs5⟩
        have hs35 : QStep (m.x tt) w2 (m.M tt) (m.v tt) w5 M5 v5 := QStep.belowL ((Below.refl _ _).drew) hs5
        have h5 := H2.out.at4.qstep ht hq5 hs35
        have hb5 := (H2.out.at4.q tt ht).belowB hs35
        obtain ⟨g5, go5, k5⟩ := H2.out.learn ht HA.out hne HC.out.1 h5
        refine (Hid.out hK) _ _ (fun h => absurd rfl h) ?_
        refine till_done (by kernel_rfl) ?_
        refine NoPanic.normal ?_
        have hall5 := FIN.out w5 _ g5 go5 ((HB1.out.mono H.out.at4.low1).trans hb5) (fun _ => by simp only [upd_same]; exact k5) (fun hh b hbm k hk ht' hne' => by
          simp only [upd_same]
          rcases hh b hbm k hk ht' hne' with h1 | ⟨h1, h2⟩
          · have := (go5.behind tt).knows h1
            simp only [upd_same] at this
            exact this
          · subst h1 h2; exact k5)
        have H39 := Lib.hid hall5
        clear hS hS0 hq5 hs5 hs35 h5 hb5 g5 go5 k5 hall5
        go_wp2_with fail
        refine H39.out.mono ?_
        rintro e w6 ⟨rfl, hr⟩
        have HRR := Lib.hid hr
        clear hr
        go_wp2_with fail
        refine bodyPost_end (results_none rfl _ _ _) rfl HRR.out
      · have hd2 : decide ((tt : Int) ∈ z.1.groups) = false := decide_eq_false h2
        have C2 := Lib.hid (CI.out W1 HB1.out tt)
        rw [hd2] at C2
        have ST := Lib.hid (STILL.out fun hc => h2 hc.2.2)
        clear h1 h2 hd1 hd2
        unfold oneV
        go_enter Try.func19, Try.ntmps19
        go_upto_region 1 with fail
        rw [← HW1.out, ← HN.out]
        go_wp2_with fail
        refine C1.out.mono ?_
        rintro e w2 ⟨rfl, rfl⟩
        go_wp2_with fail
        refine C2.out.mono ?_
        rintro e w2 ⟨rfl, rfl⟩
        go_wp2_with fail
        refine (ST.out _ HB1.out).mono ?_
        rintro e w2 ⟨rfl, hr⟩
        have HRR := Lib.hid hr
        clear hr
        go_wp2_with fail
        refine bodyPost_end (results_none rfl _ _ _) rfl HRR.out
    · have hd1 : decide ((fr : Int) ∈ z.1.groups) = false := decide_eq_false h1
      have C1 := Lib.hid (CI.out W1 HB1.out fr)
      rw [hd1] at C1
      have ST := Lib.hid (STILL.out fun hc => h1 hc.2.1)
      clear h1 hd1
      unfold oneV
      go_enter Try.func19, Try.ntmps19
      go_upto_region 1 with fail
      rw [← HW1.out, ← HN.out]
      go_wp2_with fail
      refine C1.out.mono ?_
      rintro e w2 ⟨rfl, rfl⟩
      go_wp2_with fail
      refine (ST.out _ HB1.out).mono ?_
      rintro e w2 ⟨rfl, hr⟩
      have HRR := Lib.hid hr
      clear hr
      go_wp2_with fail
      refine bodyPost_end (results_none rfl _ _ _) rfl HRR.out
end Go.Proofs.Ytamjdghjaimihaa
