/- Ids and values compared by '=='. Conditions: none. -/
import Derived.Test.YtmdfilffoomckaaWrote
import Derived.Laws.StructEq
namespace Go.Proofs.Ytmdfilffoomckaa
open Go.ChangeShapes Go.WideShapes Go.ChangeAt Go.RowKit

def encI (k : IdD) : Array Value := #[.int .i64 k.s, .int .i64 k.q]
theorem equal39 (a b : IdD) (w : World) : (Op.equal 39 (.agg (encI a)) (.agg (encI b))).run Try.prog w = .ok (decide (a = b)) w := by
  have hS : Try.prog.underlying 39 = some (.struct (Try.prog.fieldsOf 39)) := by kernel_rfl
  have hp : Try.prog.stoodInHeld 39 = false := by kernel_rfl
  have h0 : Op.equal 39 (.agg (encI a)) (.agg (encI b)) = Op.equalIn (9999 + 1) 39 (.agg (encI a)) (.agg (encI b)) := rfl
  rw [h0, run_equalIn_agg w 9999 39 _ _ hS hp]
  simp only [Program.fieldsOf, Try.underlying39, encI]
  go_simp
  obtain ⟨a1, a2⟩ := a
  obtain ⟨b1, b2⟩ := b
  by_cases h1 : a1 = b1 <;> by_cases h2 : a2 = b2 <;> simp [h1, h2]
theorem eql39 (a b : IdD) (w : World) : (binOp .eql 39 (.agg #[.int .i64 a.s, .int .i64 a.q]) (.agg #[.int .i64 b.s, .int .i64 b.q])).run Try.prog w = .ok (.bool (decide (a = b))) w := by
  have := equal39 a b w
  unfold encI at this
  simp only [binOp, Sem.run_bind, this, Result.andThen_ok]
  rfl
theorem neq39 (a b : IdD) (w : World) : (binOp .neq 39 (.agg #[.int .i64 a.s, .int .i64 a.q]) (.agg #[.int .i64 b.s, .int .i64 b.q])).run Try.prog w = .ok (.bool (!decide (a = b))) w := by
  have := equal39 a b w
  unfold encI at this
  simp only [binOp, Sem.run_bind, this, Result.andThen_ok]
  rfl
theorem equal47 (a b : ValD) (w : World) : (Op.equal 47 a.agg b.agg).run Try.prog w = .ok (decide (a = b)) w := by
  have hS : Try.prog.underlying 47 = some (.struct (Try.prog.fieldsOf 47)) := by kernel_rfl
  have hp : Try.prog.stoodInHeld 47 = false := by kernel_rfl
  have h0 : Op.equal 47 a.agg b.agg = Op.equalIn (9999 + 1) 47 a.agg b.agg := rfl
  rw [h0, run_equalIn_agg w 9999 47 _ _ hS hp]
  simp only [Program.fieldsOf, Try.underlying47]
  obtain ⟨a1, a2, a3⟩ := a
  obtain ⟨b1, b2, b3⟩ := b
  go_simp
  by_cases h3 : a3 = b3
  · by_cases h1 : a1 = b1 <;> by_cases h2 : a2 = b2 <;> simp [h1, h2, h3]
  · have := str_ne h3
    have h4 : ¬ a3.toList = b3.toList := fun e => by rw [e] at this; simp at this
    by_cases h1 : a1 = b1 <;> by_cases h2 : a2 = b2 <;> simp [h1, h2, h3, this, h4]
theorem neq47 (a b : ValD) (w : World) : (binOp .neq 47 a.agg b.agg).run Try.prog w = .ok (.bool (!decide (a = b))) w := by
  have := equal47 a b w
  simp only [binOp, Sem.run_bind, this, Result.andThen_ok]
  rfl
theorem eql47 (a b : ValD) (w : World) : (binOp .eql 47 a.agg b.agg).run Try.prog w = .ok (.bool (decide (a = b))) w := by
  have := equal47 a b w
  simp only [binOp, Sem.run_bind, this, Result.andThen_ok]
  rfl
end Go.Proofs.Ytmdfilffoomckaa
