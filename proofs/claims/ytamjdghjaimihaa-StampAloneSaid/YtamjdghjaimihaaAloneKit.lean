/- The law StampAlone. Conditions: each law's own. -/
import Derived.Test.YtamjdghjaimihaaAlone
namespace Go.Proofs.Ytamjdghjaimihaa
open Go.ChangeShapes Go.WideShapes Go.ChangeAt Go.RowKit

/-- None waits. -/
def Emp (w : World) (x : Nat) (g c : Int) (v : Value) (W : World) : Prop :=
  VarAt W x 78 [.int .i64 g, .int .u64 c, v] ∧ Tail W w.heap.size v 0 [] ∧ v.ownBlock ≠ some x ∧ (∀ b, v.ownBlock = some b → b < W.heap.size ∧ w.heap.size ≤ b) ∧ Below w.heap.size w W ∧ w.heap.size ≤ x
/-- One waits. -/
def OneW (w : World) (x p m : Nat) (g c s q : Int) (gs v : Value) (W : World) : Prop :=
  VarAt W x 78 [.int .i64 g, .int .u64 c, v] ∧ Tail W w.heap.size v 1 [.pointer (some ⟨p, 0, none⟩)] ∧ VarAt W p 84 (encOne s q gs c (.map (some m)) true) ∧ W.heap[m]? = some (.map #[] 0) ∧ v.ownBlock ≠ some x ∧ Below w.heap.size w W ∧ w.heap.size ≤ x
theorem Emp.below {w : World} {x : Nat} {g c : Int} {v : Value} {W W' : World} (h : Emp w x g c v W) (hb : Below W.heap.size W W') : Emp w x g c v W' :=
  ⟨h.1.keep hb h.1.lt, h.2.1.below hb (Nat.le_refl _), h.2.2.1, fun b e => ⟨Nat.lt_of_lt_of_le (h.2.2.2.1 b e).1 hb.size, (h.2.2.2.1 b e).2⟩, h.2.2.2.2.1.trans (hb.mono h.2.2.2.2.1.size), h.2.2.2.2.2⟩
theorem Emp.alloc {w : World} {x : Nat} {g c : Int} {v : Value} {W : World} (h : Emp w x g c v W) (o : Obj) : Emp w x g c v (W.alloc o) := h.below ((Below.refl _ _).alloc (Nat.le_refl _) o)
theorem OneW.below {w : World} {x p m : Nat} {g c s q : Int} {gs v : Value} {W W' : World} (h : OneW w x p m g c s q gs v W) (hb : Below W.heap.size W W') : OneW w x p m g c s q gs v W' :=
  ⟨h.1.keep hb h.1.lt, h.2.1.below hb (Nat.le_refl _), h.2.2.1.keep hb h.2.2.1.lt, by rw [hb.block m (Array.getElem?_eq_some_iff.1 h.2.2.2.1).1]; exact h.2.2.2.1, h.2.2.2.2.1, h.2.2.2.2.2.1.trans (hb.mono h.2.2.2.2.2.1.size), h.2.2.2.2.2.2⟩
theorem OneW.alloc {w : World} {x p m : Nat} {g c s q : Int} {gs v : Value} {W : World} (h : OneW w x p m g c s q gs v W) (o : Obj) : OneW w x p m g c s q gs v (W.alloc o) := h.below ((Below.refl _ _).alloc (Nat.le_refl _) o)

def L11Post (w : World) (x : Nat) (g c s q : Int) (e : Ending) (w' : World) : Prop := e = .returned (.tuple #[.int .u64 (c + 1), .int .i64 0]) ∧ ∃ p m gs v, OneW w x p m g (c + 1) s q gs v w'
theorem L11 {w : World} {x : Nat} {g c : Int} {v : Value} {W : World} (h : Emp w x g c v W) (s q : Int) (b o cp : Nat) (hid : goodId s q = true) (hgs : W.cell? ⟨b, o, none⟩ = some (.int .i64 g)) (hbx : b ≠ x) (h0 : 0 ≤ g) (h1 : g < 4) (hc0 : 0 ≤ c) (hc : c < 4611686018427387904) :
    Calls Try.prog 11 #[.pointer (some ⟨x, 0, none⟩), .agg #[.int .i64 s, .int .i64 q], .slice (some ⟨b, o, none⟩) 1 cp] W (L11Post w x g c s q) := by
  refine (c11one w.heap.size w.heap.size x g c v s q b o cp W hid h.1 h.2.1 hgs h.2.2.1 h.2.2.2.1 hbx h0 h1 hc0 hc (Nat.le_refl _) h.2.2.2.2.2 h.2.2.2.2.1.size).mono ?_
  rintro e w' ⟨rfl, v', p, m, gs, hQ, hT, hp, hm, hvx, hB, _⟩
  exact ⟨rfl, p, m, gs, v', hQ, hT, hp, hm, hvx, h.2.2.2.2.1.trans hB, h.2.2.2.2.2⟩
theorem OneW.form {w : World} {x p m : Nat} {g c s q : Int} {gs v : Value} {W : World} (h : OneW w x p m g c s q gs v W) : ∃ b o cp, v = .slice (some ⟨b, o, none⟩) 1 cp ∧ 1 ≤ cp ∧ cp ≤ maxLen ∧ b < W.heap.size ∧ w.heap.size ≤ b ∧ W.cell? ⟨b, o, none⟩ = some (.pointer (some ⟨p, 0, none⟩)) := by
  obtain ⟨ao, cp, rfl, _, h1, h2, _, h5⟩ := h.2.1
  obtain ⟨b, o, rfl, hb, hlt, _, hc⟩ := h5 (by omega)
  exact ⟨b, o, cp, rfl, h1, h2, hlt, hb, hc 0 _ rfl⟩
theorem L13 {w : World} {x p m : Nat} {g c s q : Int} {gs v : Value} {W : World} (h : OneW w x p m g c s q gs v W) : Calls Try.prog 13 #[.pointer (some ⟨x, 0, none⟩)] W (NextOne s q c W) := by
  obtain ⟨b, o, cp, rfl, _, _, _, _, hc⟩ := h.form
  exact c13one x p m b o cp g c s q c gs W h.1 hc h.2.2.1 h.2.2.2.1
def L14Post (w : World) (x : Nat) (g c : Int) (W : World) (e : Ending) (w' : World) : Prop :=
  e = .returned (.bool true) ∧ ∃ a cp, Emp w x g c (.slice a 0 cp) w' ∧ ∀ b T cs, b ≠ x → VarAt W b T cs → VarAt w' b T cs
theorem L14 {w : World} {x p m : Nat} {g c s q : Int} {gs v : Value} {W : World} (h : OneW w x p m g c s q gs v W) : Calls Try.prog 14 #[.pointer (some ⟨x, 0, none⟩), .agg #[.int .i64 s, .int .i64 q]] W (L14Post w x g c W) := by
  obtain ⟨b, o, cp, rfl, hc1, hcm, hlb, hwb, hc⟩ := h.form
  refine (c14one x p m b o cp g c s q c gs W hc1 hcm h.1 hc h.2.2.1 h.2.2.2.1).mono ?_
  rintro e w' ⟨rfl, w1, ob, hb, rfl⟩
  have hx := h.2.2.2.2.1
  have hbx : b ≠ x := fun e => hx (by rw [← e]; rfl)
  have h1 := h.below hb
  have ht : Tail w1 w.heap.size (.slice (some ⟨b, if cp = 1 then o else o + 1, none⟩) 0 (cp - 1)) 0 [] :=
    h1.2.1.drop 1 (Nat.le_refl _) (some ⟨b, if cp = 1 then o else o + 1, none⟩) (fun hlt => by rw [if_neg (by omega)]) (by simp)
  refine ⟨rfl, some ⟨b, if cp = 1 then o else o + 1, none⟩, cp - 1, ⟨(h1.1.set 2 _).alloc _, (ht.other (a := ⟨x, 2, none⟩) hx _).alloc _, hx, fun k hk => ?_, ?_, h.2.2.2.2.2.2⟩, fun k T cs hk hv => ?_⟩
  · have : k = b := by simpa [Value.ownBlock] using hk.symm
    subst this
    have := hb.size
    exact ⟨by simp; omega, hwb⟩
  · exact (Below.setCell h1.2.2.2.2.2.1 (p := ⟨x, 2, none⟩) h.2.2.2.2.2.2 _).alloc (by simp; exact h1.2.2.2.2.2.1.size) _
  · exact ((hv.keep hb hv.lt).other (a := ⟨x, 2, none⟩) hk _).alloc _
end Go.Proofs.Ytamjdghjaimihaa
