/- Equality of four corners with themselves. -/
import Derived.Test.YtdbhbfmbpldmnaaX4
import Derived.ChangeKeysEq
namespace Go.Proofs.Ytdbhbfmbpldmnaa
open Go.RowKit
set_option maxRecDepth 1000000
theorem eqIn23 (a b : Int) (w : World) : (Op.equalIn 9999 23 (.agg #[.int .i64 a, .int .i64 b]) (.agg #[.int .i64 a, .int .i64 b])).run Try.prog w = .ok true w := by
  have h1 : (a == a) = true := by simp
  have h2 : (b == b) = true := by simp
  rw [show (9999 : Nat) = 9998 + 1 from rfl]
  go_simp
theorem part0 (F : Nat → Int × Int) (w : World) : (part 23 #[.int .i64 (F 0).1, .int .i64 (F 0).2, .int .i64 (F 1).1, .int .i64 (F 1).2, .int .i64 (F 2).1, .int .i64 (F 2).2, .int .i64 (F 3).1, .int .i64 (F 3).2] 0).run Try.prog w = .ok (.agg #[.int .i64 (F 0).1, .int .i64 (F 0).2]) w := by kernel_rfl
theorem part1 (F : Nat → Int × Int) (w : World) : (part 23 #[.int .i64 (F 0).1, .int .i64 (F 0).2, .int .i64 (F 1).1, .int .i64 (F 1).2, .int .i64 (F 2).1, .int .i64 (F 2).2, .int .i64 (F 3).1, .int .i64 (F 3).2] 2).run Try.prog w = .ok (.agg #[.int .i64 (F 1).1, .int .i64 (F 1).2]) w := by kernel_rfl
theorem part2 (F : Nat → Int × Int) (w : World) : (part 23 #[.int .i64 (F 0).1, .int .i64 (F 0).2, .int .i64 (F 1).1, .int .i64 (F 1).2, .int .i64 (F 2).1, .int .i64 (F 2).2, .int .i64 (F 3).1, .int .i64 (F 3).2] 4).run Try.prog w = .ok (.agg #[.int .i64 (F 2).1, .int .i64 (F 2).2]) w := by kernel_rfl
theorem part3 (F : Nat → Int × Int) (w : World) : (part 23 #[.int .i64 (F 0).1, .int .i64 (F 0).2, .int .i64 (F 1).1, .int .i64 (F 1).2, .int .i64 (F 2).1, .int .i64 (F 2).2, .int .i64 (F 3).1, .int .i64 (F 3).2] 6).run Try.prog w = .ok (.agg #[.int .i64 (F 3).1, .int .i64 (F 3).2]) w := by kernel_rfl
theorem und82 : Try.prog.underlying 82 = some (.array 4 23) := by kernel_rfl
theorem cells23 : Try.prog.cellsOf 23 = 2 := by kernel_rfl
theorem eqCn (F : Nat → Int × Int) (w : World) : (binOp .eql 82 (cnV F) (cnV F)).run Try.prog w = .ok (.bool true) w := by
  obtain ⟨i0, hi, _, _, _⟩ := info_parts info23
  rw [run_eql_struct, show (10000 : Nat) = 9999 + 1 from rfl, run_equalIn_array w 9999 _ _ und82 hi, cells23, show List.range 4 = [0, 1, 2, 3] from rfl]
  simp [Op.eqItems, Sem.run_bind, part0, part1, part2, part3, eqIn23, Result.andThen_ok]
end Go.Proofs.Ytdbhbfmbpldmnaa
