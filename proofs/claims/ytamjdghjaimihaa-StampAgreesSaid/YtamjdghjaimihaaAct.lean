/- Each act on the queue and on the reference beside it: alike. Conditions: each law's own. -/
import Derived.Test.YtamjdghjaimihaaBoth
import Derived.Test.YtamjdghjaimihaaRBegin
namespace Go.Proofs.Ytamjdghjaimihaa
open Go.ChangeShapes Go.WideShapes Go.ChangeAt Go.RowKit

def ActEnd (x y : Nat) (g : Int) (B : Nat) (w : World) (M : List MemO) (v : Value) (L : List RefO) (lv : Value) (S' : QS) (e : Ending) (w' : World) : Prop :=
  e = .returned (.bool true) ∧ ∃ (M' : List MemO) (v' : Value) (L' : List RefO) (lv' : Value), Two w' x y g S' S' M' v' L' lv' B ∧ TStep x y w M v L lv w' M' v' L' lv'
theorem RowOf.keepLow {α : Type} {enc : α → List Value} {k B : Nat} {w w' : World} {v : Value} {xs : List α} (h : RowOf enc k w v xs) (hlow : 0 < xs.length → ∀ b, v.ownBlock = some b → b < B) (hb : Below B w w') (hs : w.heap.size ≤ w'.heap.size) : RowOf enc k w' v xs := by
  obtain ⟨a, cap, rfl, h1, h2, h3⟩ := h
  refine ⟨a, cap, rfl, h1, h2, fun hp => ?_⟩
  obtain ⟨b, o, rfl, hlt, hc⟩ := h3 hp
  refine ⟨b, o, rfl, Nat.lt_of_lt_of_le hlt hs, fun i j x u hx hu => ?_⟩
  rw [hb.cell (p := ⟨b, o + i * k + j, none⟩) (hlow hp b rfl)]
  exact hc i j x u hx hu
theorem nextV_form (g : Int) (S : QS) : ∃ (s : Int) (ok : Bool), nextV (nextS g S) = .tuple #[.agg #[.int .i64 (nextId g S).s, .int .i64 (nextId g S).q], .int .u64 s, .bool ok] := by
  unfold nextId
  cases nextS g S with
  | none => exact ⟨_, _, rfl⟩
  | some x => exact ⟨_, _, rfl⟩
section
variable {w : World} {x y : Nat} {g : Int} {S : QS} {M : List MemO} {v : Value} {L : List RefO} {lv : Value} {B : Nat}
theorem Two.lens (h : Two w x y g S S M v L lv B) {n : Nat} (hl : S.L.length ≤ n) : M.length ≤ n ∧ L.length ≤ n := ⟨by rw [h.q.len]; exact hl, by rw [h.r.len]; exact hl⟩
set_option maxHeartbeats 4000000 in
set_option maxRecDepth 100000 in
theorem act2 (h : Two w x y g S S M v L lv B) (hl : S.L.length ≤ 1000) (id : IdD) (gr st : Int) (va : Option Addr) (n c : Nat) (hst : 0 ≤ st) :
    Calls Try.prog 22 #[.pointer (some ⟨x, 0, none⟩), .pointer (some ⟨y, 0, none⟩), .agg #[.int .i64 2, .int .i64 id.s, .int .i64 id.q, .slice va n c, .int .i64 gr, .int .u64 st]] w (ActEnd x y g B w M v L lv (learnS g S id gr st).2) := by
  refine gen (S := ActEnd x y g B w M v L lv (learnS g S id gr st).2) fun R hR => ?_
  obtain ⟨hml, hll⟩ := h.lens hl
  have hbw : Below w.heap.size w (w.alloc (.cells #[.int .i64 2, .int .i64 id.s, .int .i64 id.q, .slice va n c, .int .i64 gr, .int .u64 st] 66)) := (Below.refl _ _).alloc (Nat.le_refl _) _
  have hend : ∀ W1 W M' v' L' lv', Below w.heap.size w W1 → Two W x y g (learnS g S id gr st).2 (learnS g S id gr st).2 M' v' L' lv' B → TStep x y W1 M v L lv W M' v' L' lv' → R (.returned (.bool true)) W := fun W1 W M' v' L' lv' h0 h1 h2 => hR _ _ ⟨rfl, M', v', L', lv', h1, (TStep.of_below h0).trans h2⟩
  have END := Lib.hid hend
  have HML := Lib.hid hml
  have HLL := Lib.hid hll
  have H := Lib.hid h
  have APT := Lib.hid h.apt
  have HBW := Lib.hid hbw
  have HST := Lib.hid hst
  clear hst
  clear hR hml hll h hbw hend hl
  go_enter Try.func22, Try.ntmps22
  go_upto_region 7 with fail
  generalize hW : (World.alloc _ _) = W1
  have hb1 : Below w.heap.size w W1 := by rw [← hW]; exact HBW.out
  have hK0 : VarAt W1 w.heap.size 66 [.int .i64 2, .int .i64 id.s, .int .i64 id.q, .slice va n c, .int .i64 gr, .int .u64 st] := by rw [← hW]; exact VarAt.new w 66 [.int .i64 2, .int .i64 id.s, .int .i64 id.q, .slice va n c, .int .i64 gr, .int .u64 st]
  have hbd : Below w.heap.size w W1.drew := hb1.trans ((Below.refl _ _).drew.mono hb1.size)
  have hK : VarAt W1.drew w.heap.size 66 [.int .i64 2, .int .i64 id.s, .int .i64 id.q, .slice va n c, .int .i64 gr, .int .u64 st] := hK0.keep (Below.refl _ _).drew hK0.lt
  have h1 : Two W1.drew x y g S S M v L lv B := H.out.below hbd
  have hc1 := hK0.cell (j := 1) rfl
  have hc2 := hK0.cell (j := 2) rfl
  have hc4 := hK0.cell (j := 4) rfl
  have hc5 := hK0.cell (j := 5) rfl
  have HK := Lib.hid hK
  have H1 := Lib.hid h1
  have HBD := Lib.hid hbd
  clear hW hK hK0 h1 hbd hb1
  go_region_held3 (fun w' => w'.cell? ⟨w.heap.size, 1, none⟩ = some (.int .i64 id.s) ∧ w'.cell? ⟨w.heap.size, 2, none⟩ = some (.int .i64 id.q) ∧ w'.cell? ⟨w.heap.size, 4, none⟩ = some (.int .i64 gr) ∧ w'.cell? ⟨w.heap.size, 5, none⟩ = some (.int .u64 st))
    (first | exact ⟨hd1, hd2, hd4, hd5⟩ | exact ⟨hg1, hg2, hg4, hg5⟩ | go_keep | fail)
    (first
      | (go_at_call 31
         refine (c31 H1.out.q id gr st HML.out).mono ?_
         rintro e w2 ⟨rfl, M2, v2, hq2, hs2⟩
         have hT2 := H1.out.qstep hq2 hs2
         have hst2 : TStep x y W1.drew M v L lv w2 M2 v2 L lv := hs2.two
         have hK2 := hst2.var HK.out APT.out
         have hd1 := hK2.cell (j := 1) rfl
         have hd2 := hK2.cell (j := 2) rfl
         have hd4 := hK2.cell (j := 4) rfl
         have hd5 := hK2.cell (j := 5) rfl
         have HT2 := Lib.hid hT2
         have HS2 := Lib.hid hst2
         clear hq2 hs2 hT2 hst2 hK2)
      | (go_at_call 41
         refine (c41 HT2.out.r HLL.out id gr st HST.out).mono ?_
         rintro e w3 ⟨rfl, L3, lv3, hr3, hs3⟩
         have hT3 := HT2.out.rstep hr3 hs3
         have hst3 := HS2.out.trans hs3.two
         have hK3 := hst3.var HK.out APT.out
         have hg1 := hK3.cell (j := 1) rfl
         have hg2 := hK3.cell (j := 2) rfl
         have hg4 := hK3.cell (j := 4) rfl
         have hg5 := hK3.cell (j := 5) rfl
         have HT3 := Lib.hid hT3
         have HS3 := Lib.hid hst3
         clear hr3 hs3 hT3 hst3 hK3)
      | fail)
  go_wp2
  go_tidy
  exact END.out _ _ _ _ _ _ HBD.out HT3.out HS3.out
set_option maxHeartbeats 4000000 in
set_option maxRecDepth 100000 in
theorem act3 (h : Two w x y g S S M v L lv B) (hl : S.L.length ≤ 1000) (id : IdD) (gr st : Int) (va : Option Addr) (n c : Nat) :
    Calls Try.prog 22 #[.pointer (some ⟨x, 0, none⟩), .pointer (some ⟨y, 0, none⟩), .agg #[.int .i64 3, .int .i64 id.s, .int .i64 id.q, .slice va n c, .int .i64 gr, .int .u64 st]] w (ActEnd x y g B w M v L lv (doneS g S id).2) := by
  refine gen (S := ActEnd x y g B w M v L lv (doneS g S id).2) fun R hR => ?_
  obtain ⟨hml, hll⟩ := h.lens hl
  have hbw : Below w.heap.size w (w.alloc (.cells #[.int .i64 3, .int .i64 id.s, .int .i64 id.q, .slice va n c, .int .i64 gr, .int .u64 st] 66)) := (Below.refl _ _).alloc (Nat.le_refl _) _
  have hend : ∀ W1 W M' v' L' lv', Below w.heap.size w W1 → Two W x y g (doneS g S id).2 (doneS g S id).2 M' v' L' lv' B → TStep x y W1 M v L lv W M' v' L' lv' → R (.returned (.bool true)) W := fun W1 W M' v' L' lv' h0 h1 h2 => hR _ _ ⟨rfl, M', v', L', lv', h1, (TStep.of_below h0).trans h2⟩
  have END := Lib.hid hend
  have HML := Lib.hid hml
  have HLL := Lib.hid hll
  have H := Lib.hid h
  have APT := Lib.hid h.apt
  have HBW := Lib.hid hbw
  clear hR hml hll h hbw hend hl
  go_enter Try.func22, Try.ntmps22
  go_upto_region 9 with fail
  generalize hW : (World.alloc _ _) = W1
  have hb1 : Below w.heap.size w W1 := by rw [← hW]; exact HBW.out
  have hK0 : VarAt W1 w.heap.size 66 [.int .i64 3, .int .i64 id.s, .int .i64 id.q, .slice va n c, .int .i64 gr, .int .u64 st] := by rw [← hW]; exact VarAt.new w 66 [.int .i64 3, .int .i64 id.s, .int .i64 id.q, .slice va n c, .int .i64 gr, .int .u64 st]
  have hbd : Below w.heap.size w W1.drew := hb1.trans ((Below.refl _ _).drew.mono hb1.size)
  have hK : VarAt W1.drew w.heap.size 66 [.int .i64 3, .int .i64 id.s, .int .i64 id.q, .slice va n c, .int .i64 gr, .int .u64 st] := hK0.keep (Below.refl _ _).drew hK0.lt
  have h1 : Two W1.drew x y g S S M v L lv B := H.out.below hbd
  have hc1 := hK0.cell (j := 1) rfl
  have hc2 := hK0.cell (j := 2) rfl
  have HK := Lib.hid hK
  have H1 := Lib.hid h1
  have HBD := Lib.hid hbd
  clear hW hK hK0 h1 hbd hb1
  go_region_held3 (fun w' => w'.cell? ⟨w.heap.size, 1, none⟩ = some (.int .i64 id.s) ∧ w'.cell? ⟨w.heap.size, 2, none⟩ = some (.int .i64 id.q))
    (first | exact ⟨hd1, hd2⟩ | exact ⟨hg1, hg2⟩ | go_keep | fail)
    (first
      | (go_at_call 14
         refine (c14 H1.out.q id).mono ?_
         rintro e w2 ⟨rfl, M2, v2, hq2, hs2⟩
         have hT2 := H1.out.qstep hq2 hs2
         have hst2 : TStep x y W1.drew M v L lv w2 M2 v2 L lv := hs2.two
         have hK2 := hst2.var HK.out APT.out
         have hd1 := hK2.cell (j := 1) rfl
         have hd2 := hK2.cell (j := 2) rfl
         have HT2 := Lib.hid hT2
         have HS2 := Lib.hid hst2
         clear hq2 hs2 hT2 hst2 hK2)
      | (go_at_call 24
         refine (c24 HT2.out.r HLL.out id).mono ?_
         rintro e w3 ⟨rfl, L3, lv3, hr3, hs3⟩
         have hT3 := HT2.out.rstep hr3 hs3
         have hst3 := HS2.out.trans hs3.two
         have hK3 := hst3.var HK.out APT.out
         have hg1 := hK3.cell (j := 1) rfl
         have hg2 := hK3.cell (j := 2) rfl
         have HT3 := Lib.hid hT3
         have HS3 := Lib.hid hst3
         clear hr3 hs3 hT3 hst3 hK3)
      | fail)
  go_wp2
  go_tidy
  exact END.out _ _ _ _ _ _ HBD.out HT3.out HS3.out
set_option maxHeartbeats 4000000 in
set_option maxRecDepth 100000 in
theorem act1 (h : Two w x y g S S M v L lv B) (hl : S.L.length ≤ 1000) (id : IdD) (gr st : Int) (va : Option Addr) (n c : Nat) {groups : List Int} (hG : RowOf encG 1 w (.slice va n c) groups) (hgl : groups.length ≤ 1000) (hlow : 0 < groups.length → ∀ k, (Value.slice va n c).ownBlock = some k → k < B) :
    Calls Try.prog 22 #[.pointer (some ⟨x, 0, none⟩), .pointer (some ⟨y, 0, none⟩), .agg #[.int .i64 1, .int .i64 id.s, .int .i64 id.q, .slice va n c, .int .i64 gr, .int .u64 st]] w (ActEnd x y g B w M v L lv (beginS g S id groups).2) := by
  refine gen (S := ActEnd x y g B w M v L lv (beginS g S id groups).2) fun R hR => ?_
  obtain ⟨hml, hll⟩ := h.lens hl
  have hbw : Below w.heap.size w (w.alloc (.cells #[.int .i64 1, .int .i64 id.s, .int .i64 id.q, .slice va n c, .int .i64 gr, .int .u64 st] 66)) := (Below.refl _ _).alloc (Nat.le_refl _) _
  have hend : ∀ W1 W M' v' L' lv', Below w.heap.size w W1 → Two W x y g (beginS g S id groups).2 (beginS g S id groups).2 M' v' L' lv' B → TStep x y W1 M v L lv W M' v' L' lv' → R (.returned (.bool true)) W := fun W1 W M' v' L' lv' h0 h1 h2 => hR _ _ ⟨rfl, M', v', L', lv', h1, (TStep.of_below h0).trans h2⟩
  have END := Lib.hid hend
  have HML := Lib.hid hml
  have HLL := Lib.hid hll
  have H := Lib.hid h
  have APT := Lib.hid h.apt
  have HBW := Lib.hid hbw
  have HG := Lib.hid hG
  have HGL := Lib.hid hgl
  have HLOW := Lib.hid hlow
  clear hR hml hll h hbw hend hl hG hgl hlow
  obtain ⟨p, hp⟩ : ∃ p, p = beginS g S id groups := ⟨_, rfl⟩
  obtain ⟨⟨a, er⟩, S1⟩ := p
  go_enter Try.func22, Try.ntmps22
  go_upto_region 3 with fail
  generalize hW : (World.alloc _ _) = W1
  have hb1 : Below w.heap.size w W1 := by rw [← hW]; exact HBW.out
  have hK : VarAt W1 w.heap.size 66 [.int .i64 1, .int .i64 id.s, .int .i64 id.q, .slice va n c, .int .i64 gr, .int .u64 st] := by rw [← hW]; exact VarAt.new w 66 [.int .i64 1, .int .i64 id.s, .int .i64 id.q, .slice va n c, .int .i64 gr, .int .u64 st]
  have h1 : Two W1 x y g S S M v L lv B := H.out.below hb1
  have hc1 := hK.cell (j := 1) rfl
  have hc2 := hK.cell (j := 2) rfl
  have hc3 := hK.cell (j := 3) rfl
  have hq := c11 h1.q id (HG.out.keep hb1) (fun hp e => by have := HLOW.out hp x e; have := H.out.q.lowX; omega) HGL.out HML.out
  rw [← hp] at hq
  simp only [pairV] at hq
  have HQ := Lib.hid hq
  have HK := Lib.hid hK
  have H1 := Lib.hid h1
  have HBD := Lib.hid hb1
  clear hW hK h1 hb1 hq
  go_upto_region 4 with (first
      | (go_at_call 11
         refine HQ.out.mono ?_
         rintro e w2 ⟨rfl, M2, v2, hq2, hs2⟩
         have hT2 := H1.out.qstep hq2 hs2
         have hst2 : TStep x y W1 M v L lv w2 M2 v2 L lv := hs2.two
         have hK2 := hst2.var HK.out APT.out
         have hd1 := hK2.cell (j := 1) rfl
         have hd2 := hK2.cell (j := 2) rfl
         have hd3 := hK2.cell (j := 3) rfl
         have hgw := (HG.out.keep HBD.out).keepLow HLOW.out (hst2.below H1.out) hst2.size
         have hr := c40 hT2.r HLL.out id hgw (fun hp e => by have := HLOW.out hp y e; have := H.out.r.lowX; omega) HGL.out
         rw [← hp] at hr
         simp only [pairV] at hr
         have HRR := Lib.hid hr
         have HT2 := Lib.hid hT2
         have HS2 := Lib.hid hst2
         clear hq2 hs2 hT2 hst2 hK2 hgw hr)
      | fail)
  go_upto_region 5 with (first
      | (go_at_call 40
         refine HRR.out.mono ?_
         rintro e w3 ⟨rfl, L3, lv3, hr3, hs3⟩
         have hT3 : Two w3 x y g (beginS g S id groups).2 (beginS g S id groups).2 M2 v2 L3 lv3 B := by rw [← hp]; exact HT2.out.rstep hr3 hs3
         have hst3 := HS2.out.trans hs3.two
         have HT3 := Lib.hid hT3
         have HS3 := Lib.hid hst3
         clear hr3 hs3 hT3 hst3)
      | fail)
  go_wp2
  go_tidy
  exact END.out _ _ _ _ _ _ HBD.out HT3.out HS3.out
set_option maxHeartbeats 4000000 in
set_option maxRecDepth 100000 in
theorem act4 (h : Two w x y g S S M v L lv B) (hl : S.L.length ≤ 1000) (id : IdD) (gr st : Int) (va : Option Addr) (n c : Nat) :
    Calls Try.prog 22 #[.pointer (some ⟨x, 0, none⟩), .pointer (some ⟨y, 0, none⟩), .agg #[.int .i64 4, .int .i64 id.s, .int .i64 id.q, .slice va n c, .int .i64 gr, .int .u64 st]] w (ActEnd x y g B w M v L lv (doneS g S (nextId g S)).2) := by
  refine gen (S := ActEnd x y g B w M v L lv (doneS g S (nextId g S)).2) fun R hR => ?_
  obtain ⟨hml, hll⟩ := h.lens hl
  have hbw : Below w.heap.size w (w.alloc (.cells #[.int .i64 4, .int .i64 id.s, .int .i64 id.q, .slice va n c, .int .i64 gr, .int .u64 st] 66)) := (Below.refl _ _).alloc (Nat.le_refl _) _
  have hend : ∀ W1 W M' v' L' lv', Below w.heap.size w W1 → Two W x y g (doneS g S (nextId g S)).2 (doneS g S (nextId g S)).2 M' v' L' lv' B → TStep x y W1 M v L lv W M' v' L' lv' → R (.returned (.bool true)) W := fun W1 W M' v' L' lv' h0 h1 h2 => hR _ _ ⟨rfl, M', v', L', lv', h1, (TStep.of_below h0).trans h2⟩
  have END := Lib.hid hend
  have HML := Lib.hid hml
  have HLL := Lib.hid hll
  have H := Lib.hid h
  have APT := Lib.hid h.apt
  have HBW := Lib.hid hbw
  obtain ⟨ns, nok, hnv⟩ := nextV_form g S
  have h25 := fun W (hb : Below w.heap.size w W) => c25 (h.r.below hb) hll
  rw [hnv] at h25
  obtain ⟨nid, hnid⟩ : ∃ i, i = nextId g S := ⟨_, rfl⟩
  rw [← hnid] at h25
  rw [← hnid] at hend
  have END := Lib.hid hend
  have H25 := Lib.hid h25
  clear hR hml hll h hbw hend hl h25 hnv hnid
  go_enter Try.func22, Try.ntmps22
  go_upto_region 12 with (first
      | (go_at_call 25; refine (H25.out _ HBW.out).mono ?_; rintro e w2 ⟨rfl, hb2⟩; have HB2 := Lib.hid (HBW.out.trans (hb2.mono HBW.out.size)); clear hb2)
      | fail)
  generalize hW : World.alloc w2 _ = W1
  have hb1 : Below w.heap.size w W1 := by rw [← hW]; exact HB2.out.alloc HB2.out.size _
  have hK0 : VarAt W1 w2.heap.size 31 [.int .i64 nid.s, .int .i64 nid.q] := by rw [← hW]; exact VarAt.new w2 31 [.int .i64 nid.s, .int .i64 nid.q]
  have hapt : Apt x y M v L lv w2.heap.size := H.out.aptNew HB2.out.size
  have hbd : Below w.heap.size w W1.drew := hb1.trans ((Below.refl _ _).drew.mono hb1.size)
  have hK : VarAt W1.drew w2.heap.size 31 [.int .i64 nid.s, .int .i64 nid.q] := hK0.keep (Below.refl _ _).drew hK0.lt
  have h1 : Two W1.drew x y g S S M v L lv B := H.out.below hbd
  have hc0 := hK0.cell (j := 0) rfl
  have hc1 := hK0.cell (j := 1) rfl
  have HK := Lib.hid hK
  have H1 := Lib.hid h1
  have HBD := Lib.hid hbd
  have HAPT := Lib.hid hapt
  clear hW hK hK0 h1 hbd hb1 hapt
  go_region_held3 (fun w' => w'.cell? ⟨w2.heap.size, 0, none⟩ = some (.int .i64 nid.s) ∧ w'.cell? ⟨w2.heap.size, 1, none⟩ = some (.int .i64 nid.q))
    (first | exact ⟨hd0, hd1⟩ | exact ⟨hg0, hg1⟩ | go_keep | fail)
    (first
      | (go_at_call 14
         refine (c14 H1.out.q nid).mono ?_
         rintro e w4 ⟨rfl, M2, v2, hq2, hs2⟩
         have hT2 := H1.out.qstep hq2 hs2
         have hst2 : TStep x y W1.drew M v L lv w4 M2 v2 L lv := hs2.two
         have hK2 := hst2.var HK.out HAPT.out
         have hd0 := hK2.cell (j := 0) rfl
         have hd1 := hK2.cell (j := 1) rfl
         have HT2 := Lib.hid hT2
         have HS2 := Lib.hid hst2
         clear hq2 hs2 hT2 hst2 hK2)
      | (go_at_call 24
         refine (c24 HT2.out.r HLL.out nid).mono ?_
         rintro e w5 ⟨rfl, L3, lv3, hr3, hs3⟩
         have hT3 := HT2.out.rstep hr3 hs3
         have hst3 := HS2.out.trans hs3.two
         have hK3 := hst3.var HK.out HAPT.out
         have hg0 := hK3.cell (j := 0) rfl
         have hg1 := hK3.cell (j := 1) rfl
         have HT3 := Lib.hid hT3
         have HS3 := Lib.hid hst3
         clear hr3 hs3 hT3 hst3 hK3)
      | fail)
  go_wp2
  go_tidy
  exact END.out _ _ _ _ _ _ HBD.out HT3.out HS3.out
set_option maxHeartbeats 4000000 in
set_option maxRecDepth 100000 in
theorem act0 (h : Two w x y g S S M v L lv B) (hl : S.L.length ≤ 1000) (id : IdD) (gr st : Int) (va : Option Addr) (n c : Nat) (k : Int) (h1 : ¬ k = 1) (h2 : ¬ k = 2) (h3 : ¬ k = 3) (h4 : ¬ k = 4) :
    Calls Try.prog 22 #[.pointer (some ⟨x, 0, none⟩), .pointer (some ⟨y, 0, none⟩), .agg #[.int .i64 k, .int .i64 id.s, .int .i64 id.q, .slice va n c, .int .i64 gr, .int .u64 st]] w (ActEnd x y g B w M v L lv S) := by
  refine gen (S := ActEnd x y g B w M v L lv S) fun R hR => ?_
  obtain ⟨hml, hll⟩ := h.lens hl
  have hbw : Below w.heap.size w (w.alloc (.cells #[.int .i64 k, .int .i64 id.s, .int .i64 id.q, .slice va n c, .int .i64 gr, .int .u64 st] 66)) := (Below.refl _ _).alloc (Nat.le_refl _) _
  have hend : ∀ W1 W M' v' L' lv', Below w.heap.size w W1 → Two W x y g S S M' v' L' lv' B → TStep x y W1 M v L lv W M' v' L' lv' → R (.returned (.bool true)) W := fun W1 W M' v' L' lv' h0 h1 h2 => hR _ _ ⟨rfl, M', v', L', lv', h1, (TStep.of_below h0).trans h2⟩
  have END := Lib.hid hend
  have HML := Lib.hid hml
  have HLL := Lib.hid hll
  have H := Lib.hid h
  have APT := Lib.hid h.apt
  have HBW := Lib.hid hbw
  have h0 := h.below hbw
  have H0 := Lib.hid h0
  clear hR hml hll h hbw hend hl h0
  go_enter Try.func22, Try.ntmps22
  go_wp2
  go_tidy
  exact END.out _ _ _ _ _ _ HBW.out H0.out (TStep.of_below (Below.refl _ _))
/-- An act on both: they answer alike. -/
theorem c22 (h : Two w x y g S S M v L lv B) (hl : S.L.length ≤ 1000) {o : OpM} (ho : OpOk w o) (hgl : o.1.groups.length ≤ 1000) (hlow : 0 < o.1.groups.length → ∀ k, o.2.ownBlock = some k → k < B) :
    Calls Try.prog 22 #[.pointer (some ⟨x, 0, none⟩), .pointer (some ⟨y, 0, none⟩), opV o] w (ActEnd x y g B w M v L lv (actS g S o.1)) := by
  obtain ⟨⟨K, id, groups, gr, st⟩, gv⟩ := o
  obtain ⟨a, cap, hv, -⟩ := _root_.id ho.1
  simp only at hv
  subst hv
  unfold actS opV
  simp only
  by_cases h1 : K = 1
  · subst h1; rw [if_pos rfl]; exact act1 h hl id gr st a _ cap ho.1 hgl hlow
  · rw [if_neg h1]
    by_cases h2 : K = 2
    · subst h2; rw [if_pos rfl]; exact act2 h hl id gr st a _ cap ho.2
    · rw [if_neg h2]
      by_cases h3 : K = 3
      · subst h3; rw [if_pos rfl]; exact act3 h hl id gr st a _ cap
      · rw [if_neg h3]
        by_cases h4 : K = 4
        · subst h4; rw [if_pos rfl]; exact act4 h hl id gr st a _ cap
        · rw [if_neg h4]; exact act0 h hl id gr st a _ cap K h1 h2 h3 h4
end
end Go.Proofs.Ytamjdghjaimihaa
