/- An act on both. Conditions: each law's own. -/
import Derived.Test.YtkkambhkfegodaaClr
import Derived.Test.YtkkambhkfegodaaNil
import Derived.Deep.QuietTactic
import Derived.BigQuiet
namespace Go.Proofs.Ytkkambhkfegodaa
open Go.ChangeShapes Go.WideShapes Go.ChangeAt Go.RowKit

def ActEnd (w0 : World) (x y : Nat) (L : List Pkt) (N : Nat) (e : Ending) (w' : World) : Prop :=
  e = .returned (.bool true) ∧ ∃ s2 lv2 B2 L2, Both w0 w' x s2 y lv2 B2 L2 (N + 1) ∧ L2.length ≤ L.length + 1
section
variable {w0 w : World} {x y : Nat} {s : NS} {lv : Value} {B : Key → List (List Int)} {L : List Pkt} {N : Nat}
theorem ActEnd.of {w2 w3 : World} {s2 : NS} {lv2 : Value} {B2 : Key → List (List Int)} {L2 : List Pkt} (hN : NetAt w2 x s2 B2 (ZB w0 y lv) (N + 1)) (hR : RefAt w0 w3 y lv2 L2) (hS : RefStep w2 y lv w3 lv2) (hs : ∀ k, B2 k = bagOf k L2) (hl : L2.length ≤ L.length + 1) :
    ActEnd w0 x y L N (.returned (.bool true)) w3 := ⟨rfl, s2, lv2, B2, L2, ⟨hN.ref_kept hS, hR, hs⟩, hl⟩
theorem ActEnd.below {e : Ending} {w1 w2 : World} (h : ActEnd w0 x y L N e w1) (hb : Below w1.heap.size w1 w2) : ActEnd w0 x y L N e w2 := by
  obtain ⟨he, s2, lv2, B2, L2, h2, hl⟩ := h
  exact ⟨he, s2, lv2, B2, L2, h2.below hb, hl⟩
theorem Both.boxNet (h : Both w0 w x s y lv B L N) {w1 w2 : World} {s2 : NS} {K : Nat} {T : TypeId} {cs : List Value} (hK : VarAt w1 K T cs) (hS : Step w1 s w2 s2) (hw : w.heap.size ≤ K) : VarAt w2 K T cs := by
  unfold VarAt
  rw [hS.frame.block K hK.lt (fun ho => by have := (h.net.lt K ho).1; omega)]
  exact hK
theorem Both.boxRef (h : Both w0 w x s y lv B L N) {w1 w2 : World} {lv2 : Value} {K : Nat} {T : TypeId} {cs : List Value} (hK : VarAt w1 K T cs) (hS : RefStep w1 y lv w2 lv2) (hw : w.heap.size ≤ K) : VarAt w2 K T cs := by
  unfold VarAt
  rw [hS.frame.block K hK.lt (fun ho => by have := (h.ref.lt K ho).2; omega)]
  exact hK
def opC (kd f t a d : Int) (v : Value) : List Value := [.int .i64 kd, .int .i64 f, .int .i64 t, .int .i64 a, .int .i64 d, v]
set_option maxHeartbeats 4000000 in
set_option maxRecDepth 100000 in
theorem act1 (h : Both w0 w x s y lv B L N) (hL : L.length ≤ 500) (f t a d : Int) (va : Option Addr) (n c : Nat) (bs : List Int) (hb : RowOf encB 1 w0 (.slice va n c) bs) (hbs : bs.length ≤ 1000) :
    Calls Try.prog 17 #[.pointer (some ⟨x, 0, none⟩), .pointer (some ⟨y, 0, none⟩), .agg #[.int .i64 1, .int .i64 f, .int .i64 t, .int .i64 a, .int .i64 d, .slice va n c]] w (ActEnd w0 x y L N) := by
  refine gen (S := ActEnd w0 x y L N) fun R hR => ?_
  have H := Lib.hid h
  have HB := Lib.hid hb
  clear h hb
  go_enter Try.func17, Try.ntmps17
  go_wp2_with fail
  generalize hW : (World.alloc _ _) = W1
  have hK : VarAt W1 w.heap.size 49 (opC 1 f t a d (.slice va n c)) := by rw [← hW]; exact VarAt.new w 49 (opC 1 f t a d (.slice va n c))
  have h1 : Both w0 W1.drew x s y lv B L N := by rw [← hW]; exact (H.out.below ((Below.refl _ _).alloc (Nat.le_refl _) _)).drew
  obtain ⟨b, B2, L2, hn, hr, hsame, hlen⟩ := pair_send h1 hL f t va n c bs HB.out hbs
  have HK := Lib.hid hK.drew
  have H1 := Lib.hid h1
  have HS := Lib.hid hsame
  have hc1 := hK.cell (j := 1) (u := .int .i64 f) rfl
  have hc2 := hK.cell (j := 2) (u := .int .i64 t) rfl
  have hc3 := hK.cell (j := 5) (u := .slice va n c) rfl
  clear hW hK h1 hsame
  go_region_held3 (fun w' => w'.cell? ⟨w.heap.size, 1, none⟩ = some (.int .i64 f) ∧ w'.cell? ⟨w.heap.size, 2, none⟩ = some (.int .i64 t) ∧ w'.cell? ⟨w.heap.size, 5, none⟩ = some (.slice va n c))
    (first | exact ⟨hd1, hd2, hd3⟩ | exact ⟨hd4, hd5, hd6⟩ | go_keep | fail)
    (first
      | (go_at_call 10
         refine hn.mono ?_
         rintro e w2 ⟨rfl, s2, hN2, hS2⟩
         have hK2 := H.out.boxNet HK.out hS2 (Nat.le_refl _)
         have hd1 := hK2.cell (j := 1) (u := .int .i64 f) rfl
         have hd2 := hK2.cell (j := 2) (u := .int .i64 t) rfl
         have hd3 := hK2.cell (j := 5) (u := .slice va n c) rfl
         have HR2 := Lib.hid (H1.out.ref_kept hS2)
         have HN2 := Lib.hid hN2
         have HK2 := Lib.hid hK2
         clear hN2 hS2 hK2)
      | (go_at_call 31
         refine (hr w2 HR2.out).mono ?_
         rintro e w3 ⟨rfl, lv2, hR3, hS3⟩
         have hK3 := H.out.boxRef HK2.out hS3 (Nat.le_refl _)
         have hd4 := hK3.cell (j := 1) (u := .int .i64 f) rfl
         have hd5 := hK3.cell (j := 2) (u := .int .i64 t) rfl
         have hd6 := hK3.cell (j := 5) (u := .slice va n c) rfl
         have HR3 := Lib.hid hR3
         have HS3 := Lib.hid hS3
         clear hR3 hS3 hK3)
      | fail)
  go_wp2
  go_tidy
  exact ActEnd.of HN2.out HR3.out HS3.out HS.out hlen
set_option maxHeartbeats 4000000 in
set_option maxRecDepth 100000 in
theorem act3 (h : Both w0 w x s y lv B L N) (hL : L.length ≤ 500) (f t a d : Int) (va : Option Addr) (n c : Nat) (ha : (Lit.int .i64 a).wf = true) :
    Calls Try.prog 17 #[.pointer (some ⟨x, 0, none⟩), .pointer (some ⟨y, 0, none⟩), .agg #[.int .i64 3, .int .i64 f, .int .i64 t, .int .i64 a, .int .i64 d, .slice va n c]] w (ActEnd w0 x y L N) := by
  refine gen (S := ActEnd w0 x y L N) fun R hR => ?_
  have H := Lib.hid h
  clear h
  go_enter Try.func17, Try.ntmps17
  go_wp2_with fail
  generalize hW : (World.alloc _ _) = W1
  have hK : VarAt W1 w.heap.size 49 (opC 3 f t a d (.slice va n c)) := by rw [← hW]; exact VarAt.new w 49 (opC 3 f t a d (.slice va n c))
  have h1 : Both w0 W1.drew x s y lv B L N := by rw [← hW]; exact (H.out.below ((Below.refl _ _).alloc (Nat.le_refl _) _)).drew
  obtain ⟨b, B2, L2, hn, hr, hsame, hlen⟩ := pair_double h1 hL f t a ha
  have HK := Lib.hid hK.drew
  have H1 := Lib.hid h1
  have HS := Lib.hid hsame
  have hc1 := hK.cell (j := 1) (u := .int .i64 f) rfl
  have hc2 := hK.cell (j := 2) (u := .int .i64 t) rfl
  have hc3 := hK.cell (j := 3) (u := .int .i64 a) rfl
  clear hW hK h1 hsame
  go_region_held3 (fun w' => w'.cell? ⟨w.heap.size, 1, none⟩ = some (.int .i64 f) ∧ w'.cell? ⟨w.heap.size, 2, none⟩ = some (.int .i64 t) ∧ w'.cell? ⟨w.heap.size, 3, none⟩ = some (.int .i64 a))
    (first | exact ⟨hd1, hd2, hd3⟩ | exact ⟨hg1, hg2, hg3⟩ | go_keep | fail)
    (first
      | (go_at_call 13
         refine hn.mono ?_
         rintro e w2 ⟨rfl, s2, hN2, hS2⟩
         have hK2 := H.out.boxNet HK.out hS2 (Nat.le_refl _)
         have hd1 := hK2.cell (j := 1) (u := .int .i64 f) rfl
         have hd2 := hK2.cell (j := 2) (u := .int .i64 t) rfl
         have hd3 := hK2.cell (j := 3) (u := .int .i64 a) rfl
         have HR2 := Lib.hid (H1.out.ref_kept hS2)
         have HN2 := Lib.hid hN2
         have HK2 := Lib.hid hK2
         clear hN2 hS2 hK2)
      | (go_at_call 34
         refine (hr w2 HR2.out).mono ?_
         rintro e w3 ⟨rfl, lv2, hR3, hS3⟩
         have hK3 := H.out.boxRef HK2.out hS3 (Nat.le_refl _)
         have hg1 := hK3.cell (j := 1) (u := .int .i64 f) rfl
         have hg2 := hK3.cell (j := 2) (u := .int .i64 t) rfl
         have hg3 := hK3.cell (j := 3) (u := .int .i64 a) rfl
         have HR3 := Lib.hid hR3
         have HS3 := Lib.hid hS3
         clear hR3 hS3 hK3)
      | fail)
  go_wp2
  go_tidy
  exact ActEnd.of HN2.out HR3.out HS3.out HS.out hlen
set_option maxHeartbeats 4000000 in
set_option maxRecDepth 100000 in
theorem act4 (h : Both w0 w x s y lv B L N) (hL : L.length ≤ 500) (f t a d : Int) (va : Option Addr) (n c : Nat) (ha : (Lit.int .i64 a).wf = true) (hd : (Lit.int .i64 d).wf = true) :
    Calls Try.prog 17 #[.pointer (some ⟨x, 0, none⟩), .pointer (some ⟨y, 0, none⟩), .agg #[.int .i64 4, .int .i64 f, .int .i64 t, .int .i64 a, .int .i64 d, .slice va n c]] w (ActEnd w0 x y L N) := by
  refine gen (S := ActEnd w0 x y L N) fun R hR => ?_
  have H := Lib.hid h
  clear h
  go_enter Try.func17, Try.ntmps17
  go_wp2_with fail
  generalize hW : (World.alloc _ _) = W1
  have hK : VarAt W1 w.heap.size 49 (opC 4 f t a d (.slice va n c)) := by rw [← hW]; exact VarAt.new w 49 (opC 4 f t a d (.slice va n c))
  have h1 : Both w0 W1.drew x s y lv B L N := by rw [← hW]; exact (H.out.below ((Below.refl _ _).alloc (Nat.le_refl _) _)).drew
  obtain ⟨b, B2, L2, hn, hr, hsame, hlen⟩ := pair_move h1 hL f t a d ha hd
  have HK := Lib.hid hK.drew
  have H1 := Lib.hid h1
  have HS := Lib.hid hsame
  have hc1 := hK.cell (j := 1) (u := .int .i64 f) rfl
  have hc2 := hK.cell (j := 2) (u := .int .i64 t) rfl
  have hc3 := hK.cell (j := 3) (u := .int .i64 a) rfl
  have hc4 := hK.cell (j := 4) (u := .int .i64 d) rfl
  clear hW hK h1 hsame
  go_region_held3 (fun w' => w'.cell? ⟨w.heap.size, 1, none⟩ = some (.int .i64 f) ∧ w'.cell? ⟨w.heap.size, 2, none⟩ = some (.int .i64 t) ∧ w'.cell? ⟨w.heap.size, 3, none⟩ = some (.int .i64 a) ∧ w'.cell? ⟨w.heap.size, 4, none⟩ = some (.int .i64 d))
    (first | exact ⟨hd1, hd2, hd3, hd4⟩ | exact ⟨hg1, hg2, hg3, hg4⟩ | go_keep | fail)
    (first
      | (go_at_call 14
         refine hn.mono ?_
         rintro e w2 ⟨rfl, s2, hN2, hS2⟩
         have hK2 := H.out.boxNet HK.out hS2 (Nat.le_refl _)
         have hd1 := hK2.cell (j := 1) (u := .int .i64 f) rfl
         have hd2 := hK2.cell (j := 2) (u := .int .i64 t) rfl
         have hd3 := hK2.cell (j := 3) (u := .int .i64 a) rfl
         have hd4 := hK2.cell (j := 4) (u := .int .i64 d) rfl
         have HR2 := Lib.hid (H1.out.ref_kept hS2)
         have HN2 := Lib.hid hN2
         have HK2 := Lib.hid hK2
         clear hN2 hS2 hK2)
      | (go_at_call 35
         refine (hr w2 HR2.out).mono ?_
         rintro e w3 ⟨rfl, lv2, hR3, hS3⟩
         have hK3 := H.out.boxRef HK2.out hS3 (Nat.le_refl _)
         have hg1 := hK3.cell (j := 1) (u := .int .i64 f) rfl
         have hg2 := hK3.cell (j := 2) (u := .int .i64 t) rfl
         have hg3 := hK3.cell (j := 3) (u := .int .i64 a) rfl
         have hg4 := hK3.cell (j := 4) (u := .int .i64 d) rfl
         have HR3 := Lib.hid hR3
         have HS3 := Lib.hid hS3
         clear hR3 hS3 hK3)
      | fail)
  go_wp2
  go_tidy
  exact ActEnd.of HN2.out HR3.out HS3.out HS.out hlen
set_option maxHeartbeats 4000000 in
set_option maxRecDepth 100000 in
theorem act5 (h : Both w0 w x s y lv B L N) (hL : L.length ≤ 500) (f t a d : Int) (va : Option Addr) (n c : Nat) (hN : N ≤ 100000) :
    Calls Try.prog 17 #[.pointer (some ⟨x, 0, none⟩), .pointer (some ⟨y, 0, none⟩), .agg #[.int .i64 5, .int .i64 f, .int .i64 t, .int .i64 a, .int .i64 d, .slice va n c]] w (ActEnd w0 x y L N) := by
  refine gen (S := ActEnd w0 x y L N) fun R hR => ?_
  have H := Lib.hid h
  clear h
  go_enter Try.func17, Try.ntmps17
  go_wp2_with fail
  generalize hW : (World.alloc _ _) = W1
  have hK : VarAt W1 w.heap.size 49 (opC 5 f t a d (.slice va n c)) := by rw [← hW]; exact VarAt.new w 49 (opC 5 f t a d (.slice va n c))
  have h1 : Both w0 W1.drew x s y lv B L N := by rw [← hW]; exact (H.out.below ((Below.refl _ _).alloc (Nat.le_refl _) _)).drew
  obtain ⟨b, B2, L2, hn, hr, hsame, hlen⟩ := pair_clear h1 hL hN t
  have HK := Lib.hid hK.drew
  have H1 := Lib.hid h1
  have HS := Lib.hid hsame
  have hc2 := hK.cell (j := 2) (u := .int .i64 t) rfl
  clear hW hK h1 hsame
  go_region_held3 (fun w' => w'.cell? ⟨w.heap.size, 2, none⟩ = some (.int .i64 t))
    (first | exact hd2 | exact hg2 | go_keep | fail)
    (first
      | (go_at_call 22
         refine hn.mono ?_
         rintro e w2 ⟨rfl, s2, hN2, hS2⟩
         have hK2 := H.out.boxNet HK.out hS2 (Nat.le_refl _)
         have hd2 := hK2.cell (j := 2) (u := .int .i64 t) rfl
         have HR2 := Lib.hid (H1.out.ref_kept hS2)
         have HN2 := Lib.hid hN2
         have HK2 := Lib.hid hK2
         clear hN2 hS2 hK2)
      | (go_at_call 36
         refine (hr w2 HR2.out).mono ?_
         rintro e w3 ⟨rfl, lv2, hR3, hS3⟩
         have hK3 := H.out.boxRef HK2.out hS3 (Nat.le_refl _)
         have hg2 := hK3.cell (j := 2) (u := .int .i64 t) rfl
         have HR3 := Lib.hid hR3
         have HS3 := Lib.hid hS3
         clear hR3 hS3 hK3)
      | fail)
  go_wp2
  go_tidy
  exact ActEnd.of HN2.out HR3.out HS3.out HS.out hlen
set_option maxHeartbeats 4000000 in
theorem act0 (h : Both w0 w x s y lv B L N) (kd f t a d : Int) (va : Option Addr) (n c : Nat) (h1 : ¬ (kd = 1)) (h2 : ¬ (kd = 2)) (h3 : ¬ (kd = 3)) (h4 : ¬ (kd = 4)) (h5 : ¬ (kd = 5)) :
    Calls Try.prog 17 #[.pointer (some ⟨x, 0, none⟩), .pointer (some ⟨y, 0, none⟩), .agg #[.int .i64 kd, .int .i64 f, .int .i64 t, .int .i64 a, .int .i64 d, .slice va n c]] w (ActEnd w0 x y L N) := by
  refine gen (S := ActEnd w0 x y L N) fun R hR => ?_
  have H := Lib.hid h
  clear h
  go_enter Try.func17, Try.ntmps17
  go_wp2_with fail
  go_tidy
  exact ⟨rfl, s, lv, B, L, ⟨(H.out.net.alloc _).mono (Nat.le_succ _), H.out.ref.below ((Below.refl _ _).alloc (Nat.le_refl _) _), H.out.same⟩, Nat.le_succ _⟩
theorem place_of {k : Key} {p : Pkt} : ∀ (M : List Pkt) (i : Nat), (onLink k M)[i]? = some p → ∃ m, M[m]? = some p ∧ cnt k (M.take m) = i := by
  intro M
  induction M with
  | nil => intro i hq; simp [onLink] at hq
  | cons q M ih =>
    intro i hq
    rw [onLink_cons] at hq
    split at hq
    · rename_i hk
      cases i with
      | zero => exact ⟨0, by simpa using hq, rfl⟩
      | succ i =>
        obtain ⟨m, h1, h2⟩ := ih i (by simpa using hq)
        refine ⟨m + 1, by simpa using h1, ?_⟩
        unfold cnt at *
        rw [List.take_succ_cons, onLink_cons, if_pos hk, List.length_cons, h2]
    · rename_i hk
      obtain ⟨m, h1, h2⟩ := ih i hq
      refine ⟨m + 1, by simpa using h1, ?_⟩
      unfold cnt at *
      rw [List.take_succ_cons, onLink_cons, if_neg hk, h2]
theorem place_one {k : Key} {p : Pkt} {i m : Nat} (hk : p.1 = k) (hi : L[i]? = some p) (hm : L[m]? = some p) (hc : cnt k (L.take i) = cnt k (L.take m)) : i = m := by
  have mono : ∀ u v : Nat, u < v → L[u]? = some p → v ≤ L.length → cnt k (L.take u) < cnt k (L.take v) := fun u v huv hu hv => by
    have h6 : cnt k (L.take (u + 1)) ≤ cnt k (L.take v) := by
      have : (L.take (u + 1)).Sublist (L.take v) := by
        rw [show L.take (u + 1) = (L.take v).take (u + 1) by rw [List.take_take]; congr 1; omega]
        exact List.take_sublist _ _
      exact (this.filter _).length_le
    rw [← take_push hu, cnt_push, if_pos hk] at h6
    omega
  have hil : i < L.length := (List.getElem?_eq_some_iff.1 hi).1
  have hml : m < L.length := (List.getElem?_eq_some_iff.1 hm).1
  rcases Nat.lt_trichotomy i m with h6 | h6 | h6
  · have := mono i m h6 hi (by omega); omega
  · exact h6
  · have := mono m i h6 hm (by omega); omega
/-- What Take makes of both. -/
def TakeNet (w0 : World) (x : Nat) (s : NS) (y : Nat) (lv : Value) (B2 : Key → List (List Int)) (N : Nat) (bs : List Int) (ok : Bool) (w : World) (e : Ending) (w' : World) : Prop :=
  ∃ pv, e = .returned (.tuple #[pv, .bool ok]) ∧ ∃ s2, NetAt w' x s2 B2 (ZB w0 y lv) (N + 1) ∧ Step w s w' s2 ∧ RowOf encB 1 w' pv bs ∧ ∀ g, pv.ownBlock = some g → g < w'.heap.size ∧ ¬ RefOwn y lv g
def TakeRef (w0 : World) (y : Nat) (lv : Value) (L2 : List Pkt) (bs : List Int) (ok : Bool) (w : World) (e : Ending) (w' : World) : Prop :=
  ∃ qv, e = .returned (.tuple #[qv, .bool ok]) ∧ RowOf encB 1 w0 qv bs ∧ ∃ lv2, RefAt w0 w' y lv2 L2 ∧ RefStep w y lv w' lv2
theorem pair_take (h : Both w0 w x s y lv B L N) (hL : L.length ≤ 500) (f t a : Int) (ha : (Lit.int .i64 a).wf = true) :
    ∃ (ok : Bool) (bs : List Int) (B2 : Key → List (List Int)) (L2 : List Pkt), bs.length ≤ 1000 ∧ Calls Try.prog 11 #[.pointer (some ⟨x, 0, none⟩), .int .i64 f, .int .i64 t, .int .i64 a] w (TakeNet w0 x s y lv B2 N bs ok w) ∧
      (∀ w2, RefAt w0 w2 y lv L → Calls Try.prog 32 #[.pointer (some ⟨y, 0, none⟩), .int .i64 f, .int .i64 t, .int .i64 a] w2 (TakeRef w0 y lv L2 bs ok w2)) ∧ (∀ k, B2 k = bagOf k L2) ∧ L2.length ≤ L.length + 1 := by
  have hlen : (B (f, t)).length = cnt (f, t) L := by rw [h.same, bagOf_len]
  by_cases hn : 0 ≤ a ∧ a < (cnt (f, t) L : Int)
  · obtain ⟨i, rfl⟩ : ∃ i : Nat, a = (i : Int) := ⟨a.toNat, by omega⟩
    have hi : i < (onLink (f, t) L).length := by have : (onLink (f, t) L).length = cnt (f, t) L := rfl; omega
    obtain ⟨p, hp⟩ : ∃ p, (onLink (f, t) L)[i]? = some p := ⟨(onLink (f, t) L)[i], List.getElem?_eq_getElem _⟩
    have hpm := mem_onLink (List.mem_of_getElem? hp)
    obtain ⟨m, hm, hmc⟩ := place_of L i hp
    refine ⟨true, p.2.2, setB B (f, t) ((B (f, t)).eraseIdx i), L.eraseIdx m, (h.ref.pk p hpm.1).2, ?_, fun w2 hr => ?_, ?_, ?_⟩
    · refine (c11 h.net h.zlt f t i (by omega)).mono ?_
      rintro e w' ⟨pv, b, rfl, hb, hrow, s2, hou, hN, hS⟩
      have : (bagOf (f, t) L)[i]? = some p.2.2 := by unfold bagOf; rw [List.getElem?_map, hp]; rfl
      rw [← h.same, hb] at this
      injection this with this
      subst this
      exact ⟨pv, rfl, s2, hN.mono (Nat.le_succ _), hS, hrow, fun g hg => ⟨(hou g hg).1, fun ho => (hou g hg).2 (.inr (.inr ho))⟩⟩
    · refine (c32 hr (by omega) f t i ha hn).mono ?_
      rintro e w' ⟨i2, p2, lv2, hi2, hk2, hc2, rfl, hR, hS⟩
      have h5 := onLink_nth hi2 hk2
      rw [show cnt (f, t) (L.take i2) = i by omega, hp] at h5
      injection h5 with h5
      subst h5
      obtain rfl : i2 = m := place_one hpm.2 hi2 hm (by omega)
      exact ⟨_, rfl, (hr.pk _ (List.mem_of_getElem? hi2)).1, lv2, hR, hS⟩
    · have := same_take h.same hm hpm.2
      rw [hmc] at this
      exact this
    · rw [List.length_eraseIdx]; split <;> omega
  · refine ⟨false, [], B, L, by simp, ?_, fun w2 hr => ?_, h.same, Nat.le_succ _⟩
    · refine (c11none h.net f t a (by rw [hlen]; exact hn)).mono ?_
      rintro e w' ⟨rfl, hb⟩
      exact ⟨_, rfl, s, (h.net.below hb).mono (Nat.le_succ _), Step.of_below hb s, RowOf.nil _ _ _, fun g hg => by cases hg⟩
    · refine (c32none hr (by omega) f t a ha hn).mono ?_
      rintro e w' ⟨rfl, rfl⟩
      exact ⟨_, rfl, RowOf.nil _ _ _, lv, hr, RefStep.refl _ _ _⟩
set_option maxHeartbeats 4000000 in
set_option maxRecDepth 100000 in
theorem act2 (h : Both w0 w x s y lv B L N) (hL : L.length ≤ 500) (f t a d : Int) (va : Option Addr) (n c : Nat) (ha : (Lit.int .i64 a).wf = true) :
    Calls Try.prog 17 #[.pointer (some ⟨x, 0, none⟩), .pointer (some ⟨y, 0, none⟩), .agg #[.int .i64 2, .int .i64 f, .int .i64 t, .int .i64 a, .int .i64 d, .slice va n c]] w (ActEnd w0 x y L N) := by
  refine gen (S := ActEnd w0 x y L N) fun R hR => ?_
  have H := Lib.hid h
  clear h
  go_enter Try.func17, Try.ntmps17
  go_wp2_with fail
  generalize hW : (World.alloc _ _) = W1
  have hK : VarAt W1 w.heap.size 49 (opC 2 f t a d (.slice va n c)) := by rw [← hW]; exact VarAt.new w 49 (opC 2 f t a d (.slice va n c))
  have h1 : Both w0 W1 x s y lv B L N := by rw [← hW]; exact H.out.below ((Below.refl _ _).alloc (Nat.le_refl _) _)
  obtain ⟨ok, bs, B2, L2, hbs, hn, hr, hsame, hlen⟩ := pair_take h1 hL f t a ha
  have HK := Lib.hid hK
  have H1 := Lib.hid h1
  have HS := Lib.hid hsame
  have hc1 := hK.cell (j := 1) (u := .int .i64 f) rfl
  have hc2 := hK.cell (j := 2) (u := .int .i64 t) rfl
  have hc3 := hK.cell (j := 3) (u := .int .i64 a) rfl
  clear hW hK h1 hsame
  go_wp2_with (first
      | (go_at_call 11
         refine hn.mono ?_
         rintro e w2 ⟨pv, rfl, s2, hN2, hS2, hrow2, hou2⟩
         have hK2 := H.out.boxNet HK.out hS2 (Nat.le_refl _)
         have hd1 := hK2.cell (j := 1) (u := .int .i64 f) rfl
         have hd2 := hK2.cell (j := 2) (u := .int .i64 t) rfl
         have hd3 := hK2.cell (j := 3) (u := .int .i64 a) rfl
         have HR2 := Lib.hid (H1.out.ref_kept hS2)
         have HN2 := Lib.hid hN2
         have HK2 := Lib.hid hK2
         have HO2 := Lib.hid hou2
         have HW2 := Lib.hid hrow2
         obtain ⟨pa, pc, rfl, -⟩ := id hrow2
         clear hN2 hS2 hK2 hou2 hrow2)
      | (go_at_call 32
         refine (hr w2 HR2.out).mono ?_
         rintro e w3 ⟨qv, rfl, hq, lv2, hR3, hS3⟩
         have HP3 := Lib.hid (RowOf.frame hS3.frame HW2.out (fun g hg => (HO2.out g hg).2))
         have HQ3 := Lib.hid (hq.keep hR3.old)
         obtain ⟨qa, qc, rfl, -⟩ := id hq
         have HR3 := Lib.hid hR3
         have HS3 := Lib.hid hS3
         clear hR3 hS3 hq)
      | (go_at_call 33
         refine (c33 HP3.out HQ3.out (by omega) (by omega)).mono ?_
         rintro e w4 ⟨nd, rfl, rfl⟩)
      | fail)
  go_tidy
  have hE := (ActEnd.of HN2.out HR3.out HS3.out HS.out hlen).below (below_drewN (Below.refl _ _) nd)
  exact hE
/-- An act, whatever it is. -/
theorem c17 (h : Both w0 w x s y lv B L N) (hL : L.length ≤ 500) (hN : N ≤ 100000) (o : OpV) (ho : o.ok w0) (hbs : o.bs.length ≤ 1000) :
    Calls Try.prog 17 #[.pointer (some ⟨x, 0, none⟩), .pointer (some ⟨y, 0, none⟩), .agg #[.int .i64 o.kind, .int .i64 o.f, .int .i64 o.t, .int .i64 o.a, .int .i64 o.d, o.v]] w (ActEnd w0 x y L N) := by
  obtain ⟨kd, f, t, a, d, v, bs⟩ := o
  obtain ⟨hrow, -, -, -, -, ha, hd⟩ := ho
  simp only at hrow ha hd hbs ⊢
  obtain ⟨va, c, rfl, -⟩ := id hrow
  by_cases h1 : kd = 1
  · subst h1; exact act1 h hL f t a d va _ c bs hrow hbs
  by_cases h2 : kd = 2
  · subst h2; exact act2 h hL f t a d va _ c ha
  by_cases h3 : kd = 3
  · subst h3; exact act3 h hL f t a d va _ c ha
  by_cases h4 : kd = 4
  · subst h4; exact act4 h hL f t a d va _ c ha hd
  by_cases h5 : kd = 5
  · subst h5; exact act5 h hL f t a d va _ c hN
  exact act0 h kd f t a d va _ c h1 h2 h3 h4 h5
end
end Go.Proofs.Ytkkambhkfegodaa
