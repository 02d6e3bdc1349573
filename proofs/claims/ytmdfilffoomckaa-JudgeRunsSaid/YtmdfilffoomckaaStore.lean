/- The reference's store: what is seen of a key. Conditions: each law's own. -/
import Derived.Test.YtmdfilffoomckaaForms4
import Derived.Test.YtmdfilffoomckaaFresh
namespace Go.Proofs.Ytmdfilffoomckaa
open Go.ChangeShapes Go.WideShapes Go.ChangeAt Go.RowKit

structure ItemD where
  key : ByteArray
  val : ValD
  ver : Int
def encItem (x : ItemD) : List Value := [.string x.key, .int .i64 x.val.kind, .int .u64 x.val.bits, .string x.val.text, .int .u64 x.ver]
theorem encItem_len (x : ItemD) : (encItem x).length = 5 := rfl
def Hit (key : ByteArray) (at_ : Int) (x : ItemD) : Prop := x.key = key ∧ x.ver ≤ at_
instance (key : ByteArray) (at_ : Int) (x : ItemD) : Decidable (Hit key at_ x) := by unfold Hit; infer_instance
def seenL : List ItemD → ByteArray → Int → ValD
  | [], _, _ => zeroVal
  | x :: l, key, at_ => if Hit key at_ x then x.val else seenL l key at_
theorem seen_skip {l : List ItemD} {key : ByteArray} {at_ : Int} (h : ∀ x ∈ l, ¬ Hit key at_ x) (m : List ItemD) : seenL (l ++ m) key at_ = seenL m key at_ := by
  induction l with
  | nil => rfl
  | cons x l ih =>
    rw [List.cons_append, seenL, if_neg (h x (List.mem_cons_self ..))]
    exact ih fun y hy => h y (List.mem_cons_of_mem _ hy)
theorem seen_at {l : List ItemD} {key : ByteArray} {at_ : Int} {i : Nat} {x : ItemD} (hn : ∀ (k : Nat) y, k < i → l[k]? = some y → ¬ Hit key at_ y) (hx : l[i]? = some x) (hh : Hit key at_ x) : seenL l key at_ = x.val := by
  have hi := (List.getElem?_eq_some_iff.1 hx).1
  have e : l = l.take i ++ l.drop i := (List.take_append_drop _ _).symm
  rw [e, seen_skip, List.drop_eq_getElem_cons hi, (List.getElem?_eq_some_iff.1 hx).2, seenL, if_pos hh]
  intro y hy
  obtain ⟨k, hk⟩ := List.getElem?_of_mem hy
  rw [List.getElem?_take] at hk
  split at hk
  · rename_i hl; exact hn k y hl hk
  · cases hk
theorem seen_none {l : List ItemD} {key : ByteArray} {at_ : Int} (hn : ∀ (k : Nat) y, k < l.length → l[k]? = some y → ¬ Hit key at_ y) : seenL l key at_ = zeroVal := by
  have := seen_skip (l := l) (key := key) (at_ := at_) (fun x hx => by obtain ⟨k, hk⟩ := List.getElem?_of_mem hx; exact hn k x (List.getElem?_eq_some_iff.1 hk).1 hk) []
  rw [List.append_nil] at this
  exact this
/-- One put in at k, ahead of which its key is not. -/
theorem seen_put {l : List ItemD} {k : Nat} {x : ItemD} (hn : ∀ (i : Nat) y, i < k → l[i]? = some y → y.key ≠ x.key) (key : ByteArray) (at_ : Int) :
    seenL (l.take k ++ [x] ++ l.drop k) key at_ = if Hit key at_ x then x.val else seenL l key at_ := by
  have ht : ∀ y ∈ l.take k, y.key ≠ x.key := fun y hy => by
    obtain ⟨i, hi⟩ := List.getElem?_of_mem hy
    rw [List.getElem?_take] at hi
    split at hi
    · rename_i hl; exact hn i y hl hi
    · cases hi
  split
  · rename_i hh
    rw [List.append_assoc, seen_skip (fun y hy h2 => ht y hy (h2.1.trans hh.1.symm)), List.singleton_append, seenL, if_pos hh]
  · rename_i hh
    have : ∀ m : List ItemD, seenL (m ++ [x] ++ l.drop k) key at_ = seenL (m ++ l.drop k) key at_ := fun m => by
      induction m with
      | nil => rw [List.nil_append, List.nil_append, List.singleton_append, seenL, if_neg hh]
      | cons y m ih => simp only [List.cons_append, seenL] at ih ⊢; rw [ih]
    rw [this, List.take_append_drop]
theorem RowOf.itemAt {w : World} {a : Option Addr} {n cap : Nat} {L : List ItemD} (h : RowOf encItem 5 w (.slice a n cap) L) {i : Nat} (hi : i < L.length) :
    ∃ b o x, a = some ⟨b, o, none⟩ ∧ b < w.heap.size ∧ L[i]? = some x ∧ w.cell? ⟨b, o + i * 5, none⟩ = some (.string x.key) ∧ w.cell? ⟨b, o + i * 5 + 1, none⟩ = some (.int .i64 x.val.kind) ∧
      w.cell? ⟨b, o + i * 5 + 2, none⟩ = some (.int .u64 x.val.bits) ∧ w.cell? ⟨b, o + i * 5 + 3, none⟩ = some (.string x.val.text) ∧ w.cell? ⟨b, o + i * 5 + 4, none⟩ = some (.int .u64 x.ver) := by
  obtain ⟨a', cap', hv, h1, h2, h3⟩ := h
  cases hv
  obtain ⟨b, o, rfl, hlt, hc⟩ := h3 (by omega)
  have hp : L[i]? = some L[i] := List.getElem?_eq_getElem hi
  exact ⟨b, o, L[i], rfl, hlt, hp, hc i 0 _ _ hp rfl, hc i 1 _ _ hp rfl, hc i 2 _ _ hp rfl, hc i 3 _ _ hp rfl, hc i 4 _ _ hp rfl⟩
def SeenS (p : Nat) (src : Value) (b o i : Nat) (x : ItemD) (W : World) : Prop := W.cell? ⟨p, 0, none⟩ = some src ∧ W.cell? ⟨b, o + i * 5 + 1, none⟩ = some (.int .i64 x.val.kind) ∧ W.cell? ⟨b, o + i * 5 + 2, none⟩ = some (.int .u64 x.val.bits) ∧ W.cell? ⟨b, o + i * 5 + 3, none⟩ = some (.string x.val.text) ∧ W.cell? ⟨b, o + i * 5 + 4, none⟩ = some (.int .u64 x.ver)
def SeenEnd (v : ValD) (w : World) (e : Ending) (w' : World) : Prop := (∃ n, e = .returned (.tuple #[v.agg, .int .u64 n])) ∧ Below w.heap.size w w'
set_option maxHeartbeats 8000000 in
set_option maxRecDepth 1000000 in
theorem c26 {w : World} {p : Nat} {a : Option Addr} {cap : Nat} {last low : Int} {L : List ItemD} (hp : VarAt w p 70 [.slice a L.length cap, .int .u64 last, .int .u64 low]) (hL : RowOf encItem 5 w (.slice a L.length cap) L) (key : ByteArray) (at_ : Int) :
    Calls Try.prog 26 #[.pointer (some ⟨p, 0, none⟩), .string key, .int .u64 at_] w (SeenEnd (seenL L key at_) w) := by
  refine gen (S := SeenEnd (seenL L key at_) w) fun R hR => ?_
  have hln : L.length ≤ maxLen := hL.len
  unfold maxLen at hln
  obtain ⟨W1, hW⟩ : ∃ W1 : World, W1 = w.alloc (.cells #[.int .i64 0, .int .u64 0, .string ⟨#[]⟩] 47) := ⟨_, rfl⟩
  have hV := hp
  have hZ : VarAt W1 w.heap.size 47 (encVal zeroVal) := by rw [hW]; exact VarAt.new w 47 (encVal zeroVal)
  have hB : Below w.heap.size w W1 := by rw [hW]; exact (Below.refl _ _).alloc (Nat.le_refl _) _
  have hVa := hp.keep hB hp.lt
  have hrow := hL
  have hlp : p < w.heap.size := hp.lt
  have c0 := hVa.cell (j := 0) rfl
  have pl := hVa.lt
  have z0 : W1.cell? ⟨w.heap.size, 0, none⟩ = some (.int .i64 0) := hZ.cell (j := 0) rfl
  have z1 : W1.cell? ⟨w.heap.size, 1, none⟩ = some (.int .u64 0) := hZ.cell (j := 1) rfl
  have z2 : W1.cell? ⟨w.heap.size, 2, none⟩ = some (.string ⟨#[]⟩) := hZ.cell (j := 2) rfl
  have f0 := hZ.free 0
  have f1 := hZ.free 1
  have f2 := hZ.free 2
  have zl := hZ.lt
  have HR := Lib.hid hR
  have HROW := Lib.hid hrow
  have HZ := Lib.hid hZ
  have HB := Lib.hid hB
  have HV := Lib.hid hV
  clear hR hp hL hV hVa hZ hB hrow
  go_enter Try.func26, Try.ntmps26
  go_wp2
  rw [← hW]
  clear hW
  go_loopw [8] (fun i wr => ∃ m : Nat, m ≤ L.length ∧ i = .int .i64 m ∧ (∀ (k : Nat) y, k < m → L[k]? = some y → ¬ Hit key at_ y) ∧ wr = W1) (fun i _ => L.length - (intOf i).toNat)
  case atStart => exact ⟨0, by omega, rfl, fun k y h => by omega, rfl⟩
  case round =>
    obtain ⟨m, hm, rfl, hn, rfl⟩ := hrel
    have HN := Lib.hid hn
    clear hn
    rcases Nat.lt_or_ge m L.length with hlt | hge
    · obtain ⟨b, o, x, rfl, hbl, hx, hc0, hc1, hc2, hc3, hc4⟩ := HROW.out.itemAt hlt
      have hmI : (m : Int) < (L.length : Int) := by omega
      have HX := Lib.hid hx
      have HLT := Lib.hid hlt
      have HC := Lib.hid (And.intro hc1 (And.intro hc2 (And.intro hc3 hc4)))
      rw [← HB.out.cell (p := ⟨b, o + m * 5, none⟩) hbl] at hc0
      rw [← HB.out.cell (p := ⟨b, o + m * 5 + 4, none⟩) hbl] at hc4
      clear hx hlt hc1 hc2 hc3
      have next : ¬ Hit key at_ x → ∀ (k : Nat) y, k < m + 1 → L[k]? = some y → ¬ Hit key at_ y := fun hh k y hk hy => by
        rcases Nat.lt_or_ge k m with h1 | h1
        · exact HN.out k y h1 hy
        · obtain rfl : k = m := by omega
          rw [HX.out] at hy; cases hy; exact hh
      have NEXT := Lib.hid next
      clear next
      by_cases he : x.key = key
      · have hxx : (x.key.toList == key.toList) = true := by rw [he]; simp
        by_cases hv : x.ver ≤ at_
        · have HH := Lib.hid (seen_at HN.out HX.out ⟨he, hv⟩)
          have sk : ∀ W, Below w.heap.size w W → SeenS p (.slice (some ⟨b, o, none⟩) L.length cap) b o m x W := fun W hb => ⟨(HV.out.keep hb HV.out.lt).cell (j := 0) rfl, by rw [hb.cell (p := ⟨b, o + m * 5 + 1, none⟩) hbl]; exact HC.out.1, by rw [hb.cell (p := ⟨b, o + m * 5 + 2, none⟩) hbl]; exact HC.out.2.1, by rw [hb.cell (p := ⟨b, o + m * 5 + 3, none⟩) hbl]; exact HC.out.2.2.1, by rw [hb.cell (p := ⟨b, o + m * 5 + 4, none⟩) hbl]; exact HC.out.2.2.2⟩
          have HSK := Lib.hid sk
          clear he sk
          go_wp2_with fail
          refine wp_region_noPanic ?_
          refine till_start (SeenS p (.slice (some ⟨b, o, none⟩) L.length cap) b o m x) 17 (by kernel_rfl) ?_
          have hS := HSK.out _ HB.out.drew
          show AnyTill _ _ _ _ _ _ 18 (Array.replicate 18 false) _ _
          refine till_take 0 (v := ?_) rfl (by kernel_rfl) (fun _ _ _ h => h) (Or.inl ⟨by rfl, ?_⟩) hS ?_
          rotate_left
          focus (intro w' hSw; obtain ⟨hs0, hs1, hs2, hs3, hs4⟩ := hSw; go_simp; try (with_reducible rfl))
          try simp only [Act.put, List.setIfInBounds_toArray, List.set_cons_zero, List.set_cons_succ]
          refine till_take 1 (v := ?_) rfl (by kernel_rfl) (fun _ _ _ h => h) (Or.inl ⟨by rfl, ?_⟩) hS ?_
          rotate_left
          focus (intro w' hSw; obtain ⟨hs0, hs1, hs2, hs3, hs4⟩ := hSw; go_simp; try (with_reducible rfl))
          try simp only [Act.put, List.setIfInBounds_toArray, List.set_cons_zero, List.set_cons_succ]
          refine till_take 2 (v := ?_) rfl (by kernel_rfl) (fun _ _ _ h => h) (Or.inl ⟨by rfl, ?_⟩) hS ?_
          rotate_left
          focus (intro w' hSw; obtain ⟨hs0, hs1, hs2, hs3, hs4⟩ := hSw; go_simp; try (with_reducible rfl))
          try simp only [Act.put, List.setIfInBounds_toArray, List.set_cons_zero, List.set_cons_succ]
          refine till_take 3 (v := ?_) rfl (by kernel_rfl) (fun _ _ _ h => h) (Or.inl ⟨by rfl, ?_⟩) hS ?_
          rotate_left
          focus (intro w' hSw; obtain ⟨hs0, hs1, hs2, hs3, hs4⟩ := hSw; go_simp; try (with_reducible rfl))
          try simp only [Act.put, List.setIfInBounds_toArray, List.set_cons_zero, List.set_cons_succ]
          refine till_take 4 (v := ?_) rfl (by kernel_rfl) (fun _ _ _ h => h) (Or.inl ⟨by rfl, ?_⟩) hS ?_
          rotate_left
          focus (intro w' hSw; obtain ⟨hs0, hs1, hs2, hs3, hs4⟩ := hSw; go_simp; try (with_reducible rfl))
          try simp only [Act.put, List.setIfInBounds_toArray, List.set_cons_zero, List.set_cons_succ]
          refine till_take 5 (v := ?_) rfl (by kernel_rfl) (fun _ _ _ h => h) (Or.inl ⟨by rfl, ?_⟩) hS ?_
          rotate_left
          focus (intro w' hSw; obtain ⟨hs0, hs1, hs2, hs3, hs4⟩ := hSw; go_simp; try (with_reducible rfl))
          try simp only [Act.put, List.setIfInBounds_toArray, List.set_cons_zero, List.set_cons_succ]
          refine till_take 6 (v := ?_) rfl (by kernel_rfl) (fun _ _ _ h => h) (Or.inl ⟨by rfl, ?_⟩) hS ?_
          rotate_left
          focus (intro w' hSw; obtain ⟨hs0, hs1, hs2, hs3, hs4⟩ := hSw; go_simp; try (with_reducible rfl))
          try simp only [Act.put, List.setIfInBounds_toArray, List.set_cons_zero, List.set_cons_succ]
          refine till_take 7 (v := ?_) rfl (by kernel_rfl) (fun _ _ _ h => h) (Or.inl ⟨by rfl, ?_⟩) hS ?_
          rotate_left
          focus (intro w' hSw; obtain ⟨hs0, hs1, hs2, hs3, hs4⟩ := hSw; go_simp; try (with_reducible rfl))
          try simp only [Act.put, List.setIfInBounds_toArray, List.set_cons_zero, List.set_cons_succ]
          refine till_take 8 (v := ?_) rfl (by kernel_rfl) (fun _ _ _ h => h) (Or.inl ⟨by rfl, ?_⟩) hS ?_
          rotate_left
          focus (intro w' hSw; obtain ⟨hs0, hs1, hs2, hs3, hs4⟩ := hSw; go_simp; try (with_reducible rfl))
          try simp only [Act.put, List.setIfInBounds_toArray, List.set_cons_zero, List.set_cons_succ]
          refine till_take 9 (v := ?_) rfl (by kernel_rfl) (fun _ _ _ h => h) (Or.inl ⟨by rfl, ?_⟩) hS ?_
          rotate_left
          focus (intro w' hSw; obtain ⟨hs0, hs1, hs2, hs3, hs4⟩ := hSw; go_simp; try (with_reducible rfl))
          try simp only [Act.put, List.setIfInBounds_toArray, List.set_cons_zero, List.set_cons_succ]
          refine till_take 10 (v := ?_) rfl (by kernel_rfl) (fun _ _ _ h => h) (Or.inl ⟨by rfl, ?_⟩) hS ?_
          rotate_left
          focus (intro w' hSw; obtain ⟨hs0, hs1, hs2, hs3, hs4⟩ := hSw; go_simp; try (with_reducible rfl))
          try simp only [Act.put, List.setIfInBounds_toArray, List.set_cons_zero, List.set_cons_succ]
          refine till_take 11 (v := ?_) rfl (by kernel_rfl) (fun _ _ _ h => h) (Or.inl ⟨by rfl, ?_⟩) hS ?_
          rotate_left
          focus (intro w' hSw; obtain ⟨hs0, hs1, hs2, hs3, hs4⟩ := hSw; go_simp; try (with_reducible rfl))
          try simp only [Act.put, List.setIfInBounds_toArray, List.set_cons_zero, List.set_cons_succ]
          refine till_take 12 (v := ?_) rfl (by kernel_rfl) (fun _ _ _ h => h) (Or.inl ⟨by rfl, ?_⟩) hS ?_
          rotate_left
          focus (intro w' hSw; obtain ⟨hs0, hs1, hs2, hs3, hs4⟩ := hSw; go_simp; try (with_reducible rfl))
          try simp only [Act.put, List.setIfInBounds_toArray, List.set_cons_zero, List.set_cons_succ]
          refine till_take 13 (v := ?_) rfl (by kernel_rfl) (fun _ _ _ h => h) (Or.inl ⟨by rfl, ?_⟩) hS ?_
          rotate_left
          focus (intro w' hSw; obtain ⟨hs0, hs1, hs2, hs3, hs4⟩ := hSw; go_simp; try (with_reducible rfl))
          try simp only [Act.put, List.setIfInBounds_toArray, List.set_cons_zero, List.set_cons_succ]
          refine till_take 14 (v := ?_) rfl (by kernel_rfl) (fun _ _ _ h => h) (Or.inl ⟨by rfl, ?_⟩) hS ?_
          rotate_left
          focus (intro w' hSw; obtain ⟨hs0, hs1, hs2, hs3, hs4⟩ := hSw; go_simp; try (with_reducible rfl))
          try simp only [Act.put, List.setIfInBounds_toArray, List.set_cons_zero, List.set_cons_succ]
          refine till_take 15 (v := ?_) rfl (by kernel_rfl) (fun _ _ _ h => h) (Or.inl ⟨by rfl, ?_⟩) hS ?_
          rotate_left
          focus (intro w' hSw; obtain ⟨hs0, hs1, hs2, hs3, hs4⟩ := hSw; go_simp; try (with_reducible rfl))
          try simp only [Act.put, List.setIfInBounds_toArray, List.set_cons_zero, List.set_cons_succ]
          refine till_ready [16] (by kernel_rfl) (TillReady.cons 16 rfl (fun K hK => ?_) TillReady.nil)
          go_simp
          have hB2 : Below w.heap.size w ((((wr.setCell ⟨w.heap.size, 0, none⟩ (.int .i64 x.val.kind)).setCell ⟨w.heap.size, 1, none⟩ (.int .u64 x.val.bits)).setCell ⟨w.heap.size, 2, none⟩ (.string x.val.text)).drew) := (((HB.out.setCell (Nat.le_refl _) _).setCell (Nat.le_refl _) _).setCell (Nat.le_refl _) _).drew
          have hZ2 : VarAt ((((wr.setCell ⟨w.heap.size, 0, none⟩ (.int .i64 x.val.kind)).setCell ⟨w.heap.size, 1, none⟩ (.int .u64 x.val.bits)).setCell ⟨w.heap.size, 2, none⟩ (.string x.val.text)).drew) w.heap.size 47 (encVal x.val) := (((show VarAt wr.drew w.heap.size 47 (encVal zeroVal) from HZ.out).set 0 (.int .i64 x.val.kind)).set 1 (.int .u64 x.val.bits)).set 2 (.string x.val.text)
          clear hS
          have hS := HSK.out _ hB2
          refine (Hid.out hK) _ _ (fun _ => hS) ?_
          try simp only [Act.put, List.setIfInBounds_toArray, List.set_cons_zero, List.set_cons_succ]
          refine till_ready [17] (by kernel_rfl) (TillReady.cons 17 rfl (fun K hK => ?_) TillReady.nil)
          go_simp
          refine (Hid.out hK) _ _ (fun h => absurd rfl h) ?_
          refine till_done (by kernel_rfl) ?_
          refine NoPanic.normal ?_
          clear hS z0 z1 z2 f0 f1 f2 c0 hc0 hc4
          generalize (((wr.setCell ⟨w.heap.size, 0, none⟩ (.int .i64 x.val.kind)).setCell ⟨w.heap.size, 1, none⟩ (.int .u64 x.val.bits)).setCell ⟨w.heap.size, 2, none⟩ (.string x.val.text)).drew = W2 at *
          have q0 := hZ2.cell (j := 0) rfl
          have q1 := hZ2.cell (j := 1) rfl
          have q2 := hZ2.cell (j := 2) rfl
          go_wp2
          refine bodyPost_ret (v := .tuple #[x.val.agg, .int .u64 x.ver]) (by simp [results, Try.results26, go_sem, q0, q1, q2]) rfl (HR.out _ _ ⟨⟨x.ver, by rw [HH.out]⟩, hB2⟩)
        · have hvf : decide (x.ver ≤ at_) = false := decide_eq_false hv
          have HNX := Lib.hid (NEXT.out fun h => hv h.2)
          clear he hv
          go_wp2
          go_tidy
          exact ⟨⟨m + 1, by have := HLT.out; omega, rfl, HNX.out, by first | rfl | trivial⟩, by have := HLT.out; simp [intOf]; omega⟩
      · have hxx : (x.key.toList == key.toList) = false := str_ne he
        have HNX := Lib.hid (NEXT.out fun h => he h.1)
        clear he
        go_wp2
        go_tidy
        exact ⟨⟨m + 1, by have := HLT.out; omega, rfl, HNX.out, by first | rfl | trivial⟩, by have := HLT.out; simp [intOf]; omega⟩
    · obtain rfl : m = L.length := by omega
      have HS := Lib.hid (seen_none HN.out)
      go_wp2
      refine bodyPost_ret (v := .tuple #[zeroVal.agg, .int .u64 0]) (by simp [results, Try.results26, go_sem, zeroVal, z0, z1, z2]; rfl) rfl (HR.out _ _ ⟨⟨0, by rw [HS.out]⟩, ?_⟩)
      exact ((HB.out.setCell (by simp) _).setCell (by simp) _).setCell (by simp) _
end Go.Proofs.Ytmdfilffoomckaa
