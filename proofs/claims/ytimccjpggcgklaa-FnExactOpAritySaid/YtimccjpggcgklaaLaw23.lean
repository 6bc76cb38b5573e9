/- Law of arities: for every number the program's OpArity is the reference's. Conditions: none. -/
import Derived.Test.YtimccjpggcgklaaFrame
import Derived.Test.YtimccjpggcgklaaOpA
namespace Go.Proofs.Ytimccjpggcgklaa
open Go.ChangeShapes Go.WideShapes Go.ChangeAt Go.RowKit
theorem walk_FnExactOpArity (k : Int) (w : World) : Calls Try.prog 3 #[.int .i64 k] w fun e w' => e = .returned (.bool true) ∧ Below w.heap.size w w' := by
  go_enter Try.func3, Try.ntmps3
  go_wp2_with fail
  refine (s_OpArity _ _).mono ?_
  rintro e w' ⟨rfl, rfl⟩
  go_wp2_with fail
  refine (i_OpArity _ _).mono ?_
  rintro e w' ⟨rfl, rfl⟩
  go_wp2_with fail
  go_ret
  exact ⟨rfl, Below.refl _ _⟩
set_option maxRecDepth 100000 in
theorem lifted_FnExactOpArity (os : Os) (started : os.Started) (H : Type) (enc : TypeId × Value → H) :
    ReturnsInHanded {} Try.checked os 3 .any (Rows.fnExactOpAritySpec.pre6 enc Try.prog Try.f3 Rows.fnExactOpArityRow.domain false) (Rows.fnExactOpAritySpec.post enc Try.prog Try.f3 false true false false) := by
  refine lift (F := 3) (fn := Try.f3) (s := Rows.fnExactOpAritySpec) (conds := Rows.fnExactOpArityRow.domain) (by kernel_rfl) Try.func3 (by kernel_rfl) rfl (by kernel_rfl) ?_ ?_ os started H enc
    (ChangeSpec.witness6 (enc := enc) (C := Try.checked) false ⟨#[], #[.int .i64 0], []⟩ 8 (by kernel_rfl) (by kernel_rfl) (by kernel_rfl) (by kernel_rfl))
  · intro H ds hl
    rw [Try.params3] at hl
    match ds, hl with
    | [d0], _ => exact ⟨rfl, rfl, rfl⟩
  · intro W base args H enc ds p hval hA hlt
    rw [Try.params3] at hA hval
    obtain ⟨v0, vs0, e0, es0, p0, q0, hargs, rfl, rfl, h0, r0⟩ := trodAll_cons hA
    obtain ⟨rfl, rfl, rfl⟩ := trodAll_nil r0
    obtain rfl : args = #[v0] := by cases args; simp_all
    obtain ⟨k, rfl, w0⟩ := op_int Try.underlying3 (hval 0 3 v0 rfl rfl) h0
    exact walk_FnExactOpArity k W
theorem facts_FnExactOpArity : joinedFacts Try.pinned.checked.prog 3 Try.f3 Rows.fnExactOpAritySpec Rows.fnExactOpArityRow = true :=
  facts_of (P := Try.prog) mayE liftE makeE rfl rfl (by kernel_rfl) (by kernel_rfl) (by kernel_rfl) (by kernel_rfl) (by kernel_rfl) (by kernel_rfl) (by kernel_rfl) (by kernel_rfl) (by kernel_rfl) (by kernel_rfl) (by kernel_rfl) (by kernel_rfl) (by kernel_rfl) rfl rfl (by kernel_rfl) (by kernel_rfl) (by kernel_rfl) (by kernel_rfl) (by kernel_rfl) (by kernel_rfl) (by kernel_rfl) (by kernel_rfl) (by kernel_rfl) (by kernel_rfl) (by kernel_rfl) rfl rfl (by kernel_rfl) (by kernel_rfl) (by kernel_rfl)
theorem over_FnExactOpArity : Rows.fnExactOpArityRow.holds Try.pinned (OpenSpec.ofChange Rows.fnExactOpAritySpec) :=
  OpenClaim.holds_of_wide 3 Try.f3 rfl rfl rfl rfl rfl rfl rfl ⟨rfl, rfl, rfl, rfl, rfl⟩ rfl rfl rfl rfl rfl (by kernel_rfl) Try.func3 facts_FnExactOpArity
    (of_decide_eq_true (by kernel_rfl)) (by unfold Func.isWrapper; first | (rw [if_pos (by decide +kernel)]; kernel_rfl) | (rw [if_neg (by decide +kernel)]; exact ⟨rfl, rfl⟩))
    (fun os started H enc _ => lifted_FnExactOpArity os started H enc)
theorem FnExactOpArity_holds : Rows.FnExactOpAritySaid := over_FnExactOpArity
end Go.Proofs.Ytimccjpggcgklaa
