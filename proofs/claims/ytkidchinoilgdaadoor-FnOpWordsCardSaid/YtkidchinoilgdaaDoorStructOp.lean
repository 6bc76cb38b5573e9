/- Equality of two operators as struct values: closed facts on the type. -/
import Derived.Test.YtkidchinoilgdaaDoorGa
import Derived.Test.YtkidchinoilgdaaDoorChecked
import Derived.Laws.StructEq
namespace Go.Proofs.YtkidchinoilgdaaDoor
open Go.RowKit
@[go_sem] theorem held_Op : Tryd.prog.stoodInHeld 26 = false := by kernel_rfl
@[go_sem] theorem guard_Op : Tryd.prog.eqGuardType Tryd.prog.depth 26 = false := by kernel_rfl
theorem eqlIn_Op (a b c d e f : Int) (w : World) : (Op.equalIn 10000 26 (.agg #[.int .i64 a, .int .i64 b, .int .i64 c]) (.agg #[.int .i64 d, .int .i64 e, .int .i64 f])).run Tryd.prog w = .ok (a == d && (b == e && c == f)) w := by
 simp [go_sem]
 by_cases h : a = d <;> by_cases h2 : b = e <;> by_cases h3 : c = f <;> simp [h, h2, h3]
@[go_sem high] theorem eql_Op (a b c d e f : Int) (w : World) : (binOp .eql 26 (.agg #[.int .i64 a, .int .i64 b, .int .i64 c]) (.agg #[.int .i64 d, .int .i64 e, .int .i64 f])).run Tryd.prog w = .ok (.bool (a == d && (b == e && c == f))) w := by
 rw [run_eql_struct, eqlIn_Op]; rfl
end Go.Proofs.YtkidchinoilgdaaDoor
