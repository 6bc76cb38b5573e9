/- How a law's arguments read: lists of lists of numbers. -/
import Derived.Test.YtjkdgedgfkgjdaaFrame8
import Derived.Test.YtjkdgedgfkgjdaaIntSSD
namespace Go.Proofs.Ytjkdgedgfkgjdaa
open Go.ChangeShapes Go.WideShapes Go.ChangeAt Go.RowKit Go.Deep

section
variable {H : Type} {enc : TypeId × Value → H} {P : Program} {w W : World} {held : Bool} {base b0 : Nat} {spare : Nat → Bool}
set_option maxRecDepth 100000 in
theorem op_IntSS {v : Value} {d : DataW H} {p : List MemPlace} (hv : Value.okWide Try.prog W .any b0 52 v) (h : DataW.Trod enc Try.prog W base (fun _ => true) held 52 v d p) (hlt : ∀ x ∈ p, x.block < W.heap.size) :
  ∃ l : List TIntS, Rep W (fun b => b < W.heap.size) v (fIntSS l) ∧ Wf (fIntSS l) := by
 obtain ⟨_, r, ⟨l, rfl⟩, q⟩ := op_slice opn_IntSS Try.underlying52 hv h hlt
 exact ⟨l, r, q⟩
end
end Go.Proofs.Ytjkdgedgfkgjdaa
