/- Equality of misses as the machine reckons it. -/
import Derived.Test.YtfjeheioglmalaaOps
namespace Go.Proofs.Ytfjeheioglmalaa
open Go.RowKit
theorem Try.size3 : (Try.prog.info? 3).map (·.size) = some 1 := by kernel_rfl
theorem equal_w8 (d : Nat) (a0 a1 a2 a3 a4 a5 a6 a7 : Int) (w : World) : (Op.equalIn (d + 2) 32 (.agg #[.int .i64 a0, .int .i64 a1, .int .i64 a2, .int .i64 a3, .int .i64 a4, .int .i64 a5, .int .i64 a6, .int .i64 a7]) (.agg #[.int .i64 a0, .int .i64 a1, .int .i64 a2, .int .i64 a3, .int .i64 a4, .int .i64 a5, .int .i64 a6, .int .i64 a7])).run Try.prog w = .ok true w := by
  obtain ⟨i, hi, h1⟩ := Option.map_eq_some_iff.1 Try.size3
  have hs : (sizeOf 3).run Try.prog w = .ok 1 w := by simp [sizeOf, typeInfo, hi, h1]
  rw [Op.equalIn]
  simp only [Sem.run_bind, run_underlying Try.underlying32, Result.andThen_ok]
  simp [hs, Std.Legacy.Range.forIn_eq_forIn_range', List.range', go_sem]
/-- A miss equals itself, and does not differ from itself. -/
theorem eql34 (m : Ms) (w : World) : (binOp .eql 34 (.agg m.cells.toArray) (.agg m.cells.toArray)).run Try.prog w = .ok (.bool true) w := by
  have q : ∀ (a0 a1 a2 a3 a4 a5 a6 a7 : Int) (w : World), (Op.equalIn 9999 32 (.agg #[.int .i64 a0, .int .i64 a1, .int .i64 a2, .int .i64 a3, .int .i64 a4, .int .i64 a5, .int .i64 a6, .int .i64 a7]) (.agg #[.int .i64 a0, .int .i64 a1, .int .i64 a2, .int .i64 a3, .int .i64 a4, .int .i64 a5, .int .i64 a6, .int .i64 a7])).run Try.prog w = .ok true w := fun a0 a1 a2 a3 a4 a5 a6 a7 w => equal_w8 9997 a0 a1 a2 a3 a4 a5 a6 a7 w
  unfold Ms.cells
  simp [go_sem, q]
theorem neq34 (m : Ms) (w : World) : (binOp .neq 34 (.agg m.cells.toArray) (.agg m.cells.toArray)).run Try.prog w = .ok (.bool false) w := by
  have q : ∀ (a0 a1 a2 a3 a4 a5 a6 a7 : Int) (w : World), (Op.equalIn 9999 32 (.agg #[.int .i64 a0, .int .i64 a1, .int .i64 a2, .int .i64 a3, .int .i64 a4, .int .i64 a5, .int .i64 a6, .int .i64 a7]) (.agg #[.int .i64 a0, .int .i64 a1, .int .i64 a2, .int .i64 a3, .int .i64 a4, .int .i64 a5, .int .i64 a6, .int .i64 a7])).run Try.prog w = .ok true w := fun a0 a1 a2 a3 a4 a5 a6 a7 w => equal_w8 9997 a0 a1 a2 a3 a4 a5 a6 a7 w
  unfold Ms.cells
  simp [go_sem, q]
theorem neq39 (m : Ms) (w : World) : (binOp .neq 39 (.agg m.cells.toArray) (.agg m.cells.toArray)).run Try.prog w = .ok (.bool false) w := by
  have q : ∀ (a0 a1 a2 a3 a4 a5 a6 a7 : Int) (w : World), (Op.equalIn 9999 32 (.agg #[.int .i64 a0, .int .i64 a1, .int .i64 a2, .int .i64 a3, .int .i64 a4, .int .i64 a5, .int .i64 a6, .int .i64 a7]) (.agg #[.int .i64 a0, .int .i64 a1, .int .i64 a2, .int .i64 a3, .int .i64 a4, .int .i64 a5, .int .i64 a6, .int .i64 a7])).run Try.prog w = .ok true w := fun a0 a1 a2 a3 a4 a5 a6 a7 w => equal_w8 9997 a0 a1 a2 a3 a4 a5 a6 a7 w
  unfold Ms.cells
  simp [go_sem, q]
end Go.Proofs.Ytfjeheioglmalaa
