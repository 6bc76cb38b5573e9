/- How a law's arguments read: a bool. -/
import Derived.Test.YtbkgjgpoohlieaaFrame
namespace Go.Proofs.Ytbkgjgpoohlieaa
open Go.ChangeShapes Go.WideShapes Go.ChangeAt Go.RowKit
section
variable {H : Type} {enc : TypeId × Value → H} {P : Program} {W : World} {sp : Nat → Bool} {held : Bool} {base b0 : Nat}
theorem op_bool {t : TypeId} {v : Value} {d : DataW H} {p : List MemPlace} (ht : P.underlying t = some .bool) (hv : Value.okWide P W .any b0 t v)
  (_h : DataW.Trod enc P W base sp held t v d p) : ∃ b : Bool, v = .bool b := okWide_bool ht hv
end
end Go.Proofs.Ytbkgjgpoohlieaa
