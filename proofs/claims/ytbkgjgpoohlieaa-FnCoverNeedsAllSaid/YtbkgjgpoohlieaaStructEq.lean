/- Equality of two struct values: closed facts on the types. -/
import Derived.Test.YtbkgjgpoohlieaaMem
import Derived.Test.YtbkgjgpoohlieaaChecked
import Derived.Laws.StructEq
namespace Go.Proofs.Ytbkgjgpoohlieaa
open Go.RowKit
@[go_sem] theorem held_Table : Try.prog.stoodInHeld 31 = false := by kernel_rfl
@[go_sem] theorem guard_Table : Try.prog.eqGuardType Try.prog.depth 31 = false := by kernel_rfl
@[go_sem] theorem held_Cube : Try.prog.stoodInHeld 61 = false := by kernel_rfl
@[go_sem] theorem guard_Cube : Try.prog.eqGuardType Try.prog.depth 61 = false := by kernel_rfl
theorem eqlIn_Table (a b c d : Int) (w : World) : (Op.equalIn 10000 31 (.agg #[.int .i64 a, .int .i64 b]) (.agg #[.int .i64 c, .int .i64 d])).run Try.prog w = .ok (a == c && b == d) w := by
 simp [go_sem]
 by_cases h : a = c <;> by_cases h2 : b = d <;> simp [h, h2]
@[go_sem high] theorem neq_Table (a b c d : Int) (w : World) : (binOp .neq 31 (.agg #[.int .i64 a, .int .i64 b]) (.agg #[.int .i64 c, .int .i64 d])).run Try.prog w = .ok (.bool (!(a == c && b == d))) w := by
 rw [run_neq_struct, eqlIn_Table]; rfl
@[go_sem high] theorem eql_Table (a b c d : Int) (w : World) : (binOp .eql 31 (.agg #[.int .i64 a, .int .i64 b]) (.agg #[.int .i64 c, .int .i64 d])).run Try.prog w = .ok (.bool (a == c && b == d)) w := by
 rw [run_eql_struct, eqlIn_Table]; rfl
theorem eqlIn_Cube (a b c d : Int) (w : World) : (Op.equalIn 10000 61 (.agg #[.int .i64 a, .int .i64 b]) (.agg #[.int .i64 c, .int .i64 d])).run Try.prog w = .ok (a == c && b == d) w := by
 simp [go_sem]
 by_cases h : a = c <;> by_cases h2 : b = d <;> simp [h, h2]
@[go_sem high] theorem neq_Cube (a b c d : Int) (w : World) : (binOp .neq 61 (.agg #[.int .i64 a, .int .i64 b]) (.agg #[.int .i64 c, .int .i64 d])).run Try.prog w = .ok (.bool (!(a == c && b == d))) w := by
 rw [run_neq_struct, eqlIn_Cube]; rfl
@[go_sem high] theorem eql_Cube (a b c d : Int) (w : World) : (binOp .eql 61 (.agg #[.int .i64 a, .int .i64 b]) (.agg #[.int .i64 c, .int .i64 d])).run Try.prog w = .ok (.bool (a == c && b == d)) w := by
 rw [run_eql_struct, eqlIn_Cube]; rfl
end Go.Proofs.Ytbkgjgpoohlieaa
