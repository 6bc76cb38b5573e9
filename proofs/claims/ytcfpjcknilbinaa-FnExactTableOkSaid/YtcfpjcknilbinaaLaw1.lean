/- Laws of validity and clamping: for every input the program's CubeOk, TableOk and Clamp are the reference's. Conditions: none. -/
import Derived.Test.YtcfpjcknilbinaaFrame
import Derived.Test.YtcfpjcknilbinaaNum
namespace Go.Proofs.Ytcfpjcknilbinaa
open Go.ChangeShapes Go.WideShapes Go.ChangeAt Go.RowKit

theorem walk_FnExactClamp (n a b : Int) (w : World) : Calls Try.prog 6 #[.int .i64 n, .int .i64 a, .int .i64 b] w fun e w' => e = .returned (.bool true) ∧ Below w.heap.size w w' := by
  go_enter Try.func6, Try.ntmps6
  go_wp2_with (first | (go_at_call 40; refine (s_Clamp _ _ _ _).mono ?_; rintro e w' ⟨rfl, rfl⟩) | (go_at_call 41; refine (i_Clamp _ _ _ _).mono ?_; rintro e w' ⟨rfl, rfl⟩))
  go_ret
  exact ⟨rfl, Below.refl _ _⟩
set_option maxRecDepth 100000 in
theorem lifted_FnExactClamp (os : Os) (started : os.Started) (H : Type) (enc : TypeId × Value → H) :
    ReturnsInHanded {} Try.checked os 6 .any (Rows.fnExactClampSpec.pre6 enc Try.prog Try.f6 Rows.fnExactClampRow.domain false) (Rows.fnExactClampSpec.post enc Try.prog Try.f6 false true false false) := by
  refine lift (F := 6) (fn := Try.f6) (s := Rows.fnExactClampSpec) (conds := Rows.fnExactClampRow.domain) (by kernel_rfl) Try.func6 (by kernel_rfl) rfl (by kernel_rfl) ?_ ?_ os started H enc
    (ChangeSpec.witness6 (enc := enc) (C := Try.checked) false ⟨#[], #[.int .i64 0, .int .i64 0, .int .i64 0], []⟩ 8 (by kernel_rfl) (by kernel_rfl) (by kernel_rfl) (by kernel_rfl))
  · intro H ds hl
    rw [Try.params6] at hl
    match ds, hl with
    | [d0, d1, d2], _ => exact ⟨rfl, rfl, rfl⟩
  · intro W base args H enc ds p hval hA hlt
    rw [Try.params6] at hA hval
    obtain ⟨v0, vs0, e0, es0, p0, q0, hargs, rfl, rfl, h0, r0⟩ := trodAll_cons hA
    obtain ⟨v1, vs1, e1, es1, p1, q1, rfl, rfl, rfl, h1, r1⟩ := trodAll_cons r0
    obtain ⟨v2, vs2, e2, es2, p2, q2, rfl, rfl, rfl, h2, r2⟩ := trodAll_cons r1
    obtain ⟨rfl, rfl, rfl⟩ := trodAll_nil r2
    obtain rfl : args = #[v0, v1, v2] := by cases args; simp_all
    obtain ⟨n, rfl, w0⟩ := op_int Try.underlying3 (hval 0 3 v0 rfl rfl) h0
    obtain ⟨a, rfl, w1⟩ := op_int Try.underlying3 (hval 1 3 v1 rfl rfl) h1
    obtain ⟨b, rfl, w2⟩ := op_int Try.underlying3 (hval 2 3 v2 rfl rfl) h2
    exact walk_FnExactClamp n a b W
theorem facts_FnExactClamp : joinedFacts Try.pinned.checked.prog 6 Try.f6 Rows.fnExactClampSpec Rows.fnExactClampRow = true :=
  facts_of (P := Try.prog) mayE liftE makeE rfl rfl (by kernel_rfl) (by kernel_rfl) (by kernel_rfl) (by kernel_rfl) (by kernel_rfl) (by kernel_rfl) (by kernel_rfl) (by kernel_rfl) (by kernel_rfl) (by kernel_rfl) (by kernel_rfl) (by kernel_rfl) (by kernel_rfl) rfl rfl (by kernel_rfl) (by kernel_rfl) (by kernel_rfl) (by kernel_rfl) (by kernel_rfl) (by kernel_rfl) (by kernel_rfl) (by kernel_rfl) (by kernel_rfl) (by kernel_rfl) (by kernel_rfl) rfl rfl (by kernel_rfl) (by kernel_rfl) (by kernel_rfl)
theorem over_FnExactClamp : Rows.fnExactClampRow.holds Try.pinned (OpenSpec.ofChange Rows.fnExactClampSpec) :=
  OpenClaim.holds_of_wide 6 Try.f6 rfl rfl rfl rfl rfl rfl rfl ⟨rfl, rfl, rfl, rfl, rfl⟩ rfl rfl rfl rfl rfl (by kernel_rfl) Try.func6 facts_FnExactClamp
    (of_decide_eq_true (by kernel_rfl)) (by unfold Func.isWrapper; first | (rw [if_pos (by decide +kernel)]; kernel_rfl) | (rw [if_neg (by decide +kernel)]; exact ⟨rfl, rfl⟩))
    (fun os started H enc _ => lifted_FnExactClamp os started H enc)
theorem FnExactClamp_holds : Rows.FnExactClampSaid := over_FnExactClamp

theorem walk_FnExactTableOk (n b : Int) (w : World) : Calls Try.prog 5 #[.agg #[.int .i64 n, .int .i64 b]] w fun e w' => e = .returned (.bool true) ∧ Below w.heap.size w w' := by
  go_enter Try.func5, Try.ntmps5
  go_wp2_with fail
  refine (l_toTable _ _ _).mono ?_
  rintro e w1 ⟨rfl, hb1⟩
  have z1 := hb1.size
  try simp at z1
  have q1_0 := fun o => (bcell hb1).1 (w.heap.size) o (by (try simp) <;> (try omega))
  have p1_0 := fun o => (bcell hb1).2 (w.heap.size) o (by (try simp) <;> (try omega))
  go_wp2_with fail
  refine (s_TableOk _ _ _).mono ?_
  rintro e w2 ⟨rfl, hb2⟩
  have z2 := hb2.size
  try simp at z2
  have q2_0 := fun o => (bcell hb2).1 (w.heap.size) o (by (try simp) <;> (try omega))
  have p2_0 := fun o => (bcell hb2).2 (w.heap.size) o (by (try simp) <;> (try omega))
  go_wp2_with fail
  refine (l_toTable _ _ _).mono ?_
  rintro e w3 ⟨rfl, hb3⟩
  have z3 := hb3.size
  try simp at z3
  have q3_0 := fun o => (bcell hb3).1 (w.heap.size) o (by (try simp) <;> (try omega))
  have p3_0 := fun o => (bcell hb3).2 (w.heap.size) o (by (try simp) <;> (try omega))
  go_wp2_with fail
  refine (i_TableOk _ _ _).mono ?_
  rintro e w4 ⟨rfl, hb4⟩
  have z4 := hb4.size
  try simp at z4
  go_wp2_with fail
  go_ret
  exact ⟨rfl, (by repeat (first | exact Below.refl _ _ | with_reducible assumption | refine below_drewN ?_ _ | refine Below.drew ?_ | refine Below.alloc ?_ (by (try simp) <;> (try omega)) _ | refine Below.setCell ?_ (by (try simp) <;> (try omega)) _ | refine Below.trans ?_ (Below.mono (by with_reducible assumption) (by (try simp) <;> (try omega)))))⟩
set_option maxRecDepth 100000 in
theorem lifted_FnExactTableOk (os : Os) (started : os.Started) (H : Type) (enc : TypeId × Value → H) :
    ReturnsInHanded {} Try.checked os 5 .any (Rows.fnExactTableOkSpec.pre6 enc Try.prog Try.f5 Rows.fnExactTableOkRow.domain false) (Rows.fnExactTableOkSpec.post enc Try.prog Try.f5 false true false false) := by
  refine lift (F := 5) (fn := Try.f5) (s := Rows.fnExactTableOkSpec) (conds := Rows.fnExactTableOkRow.domain) (by kernel_rfl) Try.func5 (by kernel_rfl) rfl (by kernel_rfl) ?_ ?_ os started H enc
    (ChangeSpec.witness6 (enc := enc) (C := Try.checked) false ⟨#[], #[.agg #[.int .i64 0, .int .i64 0]], []⟩ 8 (by kernel_rfl) (by kernel_rfl) (by kernel_rfl) (by kernel_rfl))
  · intro H ds hl
    rw [Try.params5] at hl
    match ds, hl with
    | [d0], _ => exact ⟨rfl, rfl, rfl⟩
  · intro W base args H enc ds p hval hA hlt
    rw [Try.params5] at hA hval
    obtain ⟨v0, vs0, e0, es0, p0, q0, hargs, rfl, rfl, h0, r0⟩ := trodAll_cons hA
    obtain ⟨rfl, rfl, rfl⟩ := trodAll_nil r0
    obtain rfl : args = #[v0] := by cases args; simp_all
    obtain ⟨n, b, rfl, w0a, w0b⟩ := op_agg2 Try.underlying30 (by kernel_rfl) (by kernel_rfl) (by kernel_rfl) (by kernel_rfl) (hval 0 30 v0 rfl rfl) h0
    exact walk_FnExactTableOk n b W
theorem facts_FnExactTableOk : joinedFacts Try.pinned.checked.prog 5 Try.f5 Rows.fnExactTableOkSpec Rows.fnExactTableOkRow = true :=
  facts_of (P := Try.prog) mayE liftE makeE rfl rfl (by kernel_rfl) (by kernel_rfl) (by kernel_rfl) (by kernel_rfl) (by kernel_rfl) (by kernel_rfl) (by kernel_rfl) (by kernel_rfl) (by kernel_rfl) (by kernel_rfl) (by kernel_rfl) (by kernel_rfl) (by kernel_rfl) rfl rfl (by kernel_rfl) (by kernel_rfl) (by kernel_rfl) (by kernel_rfl) (by kernel_rfl) (by kernel_rfl) (by kernel_rfl) (by kernel_rfl) (by kernel_rfl) (by kernel_rfl) (by kernel_rfl) rfl rfl (by kernel_rfl) (by kernel_rfl) (by kernel_rfl)
theorem over_FnExactTableOk : Rows.fnExactTableOkRow.holds Try.pinned (OpenSpec.ofChange Rows.fnExactTableOkSpec) :=
  OpenClaim.holds_of_wide 5 Try.f5 rfl rfl rfl rfl rfl rfl rfl ⟨rfl, rfl, rfl, rfl, rfl⟩ rfl rfl rfl rfl rfl (by kernel_rfl) Try.func5 facts_FnExactTableOk
    (of_decide_eq_true (by kernel_rfl)) (by unfold Func.isWrapper; first | (rw [if_pos (by decide +kernel)]; kernel_rfl) | (rw [if_neg (by decide +kernel)]; exact ⟨rfl, rfl⟩))
    (fun os started H enc _ => lifted_FnExactTableOk os started H enc)
theorem FnExactTableOk_holds : Rows.FnExactTableOkSaid := over_FnExactTableOk
end Go.Proofs.Ytcfpjcknilbinaa
