/- How a law's arguments read: lists of lists of numbers. -/
import Derived.Test.YtjkdgedgfkgjdaaGreatFrame8
import Derived.Test.YtjkdgedgfkgjdaaGreatIntSSD
namespace Go.Proofs.YtjkdgedgfkgjdaaGreat
open Go.ChangeShapes Go.WideShapes Go.ChangeAt Go.RowKit Go.Deep

section
variable {H : Type} {enc : TypeId × Value → H} {P : Program} {w W : World} {held : Bool} {base b0 : Nat} {spare : Nat → Bool}
set_option maxRecDepth 100000 in
theorem op_IntSS {v : Value} {d : DataW H} {p : List MemPlace} (hv : Value.okWide Tryz.prog W .any b0 28 v) (h : DataW.Trod enc Tryz.prog W base (fun _ => true) held 28 v d p) (hlt : ∀ x ∈ p, x.block < W.heap.size) :
  ∃ l : List TIntS, Rep W (fun b => b < W.heap.size) v (fIntSS l) ∧ Wf (fIntSS l) := by
 obtain ⟨_, r, ⟨l, rfl⟩, q⟩ := op_slice opn_IntSS Tryz.underlying28 hv h hlt
 exact ⟨l, r, q⟩
end
end Go.Proofs.YtjkdgedgfkgjdaaGreat
