/- How a law's arguments read: states. -/
import Derived.Test.YtlkjdhjeecogjaaFrame8
import Derived.Test.YtlkjdhjeecogjaaWordStateD
namespace Go.Proofs.Ytlkjdhjeecogjaa
open Go.ChangeShapes Go.WideShapes Go.ChangeAt Go.RowKit Go.Deep

section
variable {H : Type} {enc : TypeId × Value → H} {P : Program} {w W : World} {held : Bool} {base b0 : Nat} {spare : Nat → Bool}
/-- all numbers of it are of int64's range -/
def WfWordState (x : TWordState) : Prop := Wf (fIntS x.1) ∧ Wf (fIntS x.2)
set_option maxRecDepth 100000 in
theorem op_WordState {v : Value} {d : DataW H} {p : List MemPlace} (hv : Value.okWide Try.prog W .any b0 30 v) (h : DataW.Trod enc Try.prog W base (fun _ => true) held 30 v d p) (hlt : ∀ x ∈ p, x.block < W.heap.size) :
  ∃ x : TWordState, RWordState W (fun b => b < W.heap.size) v x ∧ WfWordState x := by
 obtain ⟨v0, v1, y0, y1, n, rfl, _, rfl, t0, t1⟩ := Joins.open_agg2 Try.underlying30 (by kernel_rfl) (by kernel_rfl) hv h
 obtain ⟨_, r0, ⟨l0, rfl⟩, q0⟩ := opn_IntS base held n v0 y0 t0 (fun z hz => hlt z (by simp [hz]))
 obtain ⟨_, r1, ⟨l1, rfl⟩, q1⟩ := opn_IntS base held n v1 y1 t1 (fun z hz => hlt z (by simp [hz]))
 exact ⟨(l0, l1), ⟨v0, v1, rfl, r0, r1⟩, ⟨q0, q1⟩⟩
end
end Go.Proofs.Ytlkjdhjeecogjaa
