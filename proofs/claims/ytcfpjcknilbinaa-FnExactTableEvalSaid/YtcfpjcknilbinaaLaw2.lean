/- Laws of cubes and table values: for every input the program's CubeOk, CubeHas and TableEval are the reference's. Conditions: none. -/
import Derived.Test.YtcfpjcknilbinaaFrame
import Derived.Test.YtcfpjcknilbinaaHas
namespace Go.Proofs.Ytcfpjcknilbinaa
open Go.ChangeShapes Go.WideShapes Go.ChangeAt Go.RowKit

theorem walk_FnExactCubeOk (n c v : Int) (w : World) : Calls Try.prog 4 #[.int .i64 n, .agg #[.int .i64 c, .int .i64 v]] w fun e w' => e = .returned (.bool true) ∧ Below w.heap.size w w' := by
  go_enter Try.func4, Try.ntmps4
  go_wp2_with fail
  refine (l_toCube _ _ _).mono ?_
  rintro e w1 ⟨rfl, hb1⟩
  have z1 := hb1.size
  try simp at z1
  have q1_0 := fun o => (bcell hb1).1 (w.heap.size) o (by (try simp) <;> (try omega))
  have p1_0 := fun o => (bcell hb1).2 (w.heap.size) o (by (try simp) <;> (try omega))
  go_wp2_with fail
  refine (s_CubeOk _ _ _ _).mono ?_
  rintro e w2 ⟨rfl, hb2⟩
  have z2 := hb2.size
  try simp at z2
  have q2_0 := fun o => (bcell hb2).1 (w.heap.size) o (by (try simp) <;> (try omega))
  have p2_0 := fun o => (bcell hb2).2 (w.heap.size) o (by (try simp) <;> (try omega))
  go_wp2_with fail
  refine (l_toCube _ _ _).mono ?_
  rintro e w3 ⟨rfl, hb3⟩
  have z3 := hb3.size
  try simp at z3
  have q3_0 := fun o => (bcell hb3).1 (w.heap.size) o (by (try simp) <;> (try omega))
  have p3_0 := fun o => (bcell hb3).2 (w.heap.size) o (by (try simp) <;> (try omega))
  go_wp2_with fail
  refine (i_CubeOk _ _ _ _).mono ?_
  rintro e w4 ⟨rfl, hb4⟩
  have z4 := hb4.size
  try simp at z4
  have q4_0 := fun o => (bcell hb4).1 (w.heap.size) o (by (try simp) <;> (try omega))
  have p4_0 := fun o => (bcell hb4).2 (w.heap.size) o (by (try simp) <;> (try omega))
  go_wp2_with fail
  go_ret
  exact ⟨rfl, (by repeat (first | exact Below.refl _ _ | with_reducible assumption | refine below_drewN ?_ _ | refine Below.drew ?_ | refine Below.alloc ?_ (by (try simp) <;> (try omega)) _ | refine Below.setCell ?_ (by (try simp) <;> (try omega)) _ | refine Below.trans ?_ (Below.mono (by with_reducible assumption) (by (try simp) <;> (try omega)))))⟩
set_option maxRecDepth 100000 in
theorem lifted_FnExactCubeOk (os : Os) (started : os.Started) (H : Type) (enc : TypeId × Value → H) :
    ReturnsInHanded {} Try.checked os 4 .any (Rows.fnExactCubeOkSpec.pre6 enc Try.prog Try.f4 Rows.fnExactCubeOkRow.domain false) (Rows.fnExactCubeOkSpec.post enc Try.prog Try.f4 false true false false) := by
  refine lift (F := 4) (fn := Try.f4) (s := Rows.fnExactCubeOkSpec) (conds := Rows.fnExactCubeOkRow.domain) (by kernel_rfl) Try.func4 (by kernel_rfl) rfl (by kernel_rfl) ?_ ?_ os started H enc
    (ChangeSpec.witness6 (enc := enc) (C := Try.checked) false ⟨#[], #[.int .i64 0, .agg #[.int .i64 0, .int .i64 0]], []⟩ 8 (by kernel_rfl) (by kernel_rfl) (by kernel_rfl) (by kernel_rfl))
  · intro H ds hl
    rw [Try.params4] at hl
    match ds, hl with
    | [d0, d1], _ => exact ⟨rfl, rfl, rfl⟩
  · intro W base args H enc ds p hval hA hlt
    rw [Try.params4] at hA hval
    obtain ⟨v0, vs0, e0, es0, p0, q0, hargs, rfl, rfl, h0, r0⟩ := trodAll_cons hA
    obtain ⟨v1, vs1, e1, es1, p1, q1, rfl, rfl, rfl, h1, r1⟩ := trodAll_cons r0
    obtain ⟨rfl, rfl, rfl⟩ := trodAll_nil r1
    obtain rfl : args = #[v0, v1] := by cases args; simp_all
    obtain ⟨n, rfl, w0⟩ := op_int Try.underlying3 (hval 0 3 v0 rfl rfl) h0
    obtain ⟨c, v, rfl, w1a, w1b⟩ := op_agg2 Try.underlying24 (by kernel_rfl) (by kernel_rfl) (by kernel_rfl) (by kernel_rfl) (hval 1 24 v1 rfl rfl) h1
    exact walk_FnExactCubeOk n c v W
theorem facts_FnExactCubeOk : joinedFacts Try.pinned.checked.prog 4 Try.f4 Rows.fnExactCubeOkSpec Rows.fnExactCubeOkRow = true :=
  facts_of (P := Try.prog) mayE liftE makeE rfl rfl (by kernel_rfl) (by kernel_rfl) (by kernel_rfl) (by kernel_rfl) (by kernel_rfl) (by kernel_rfl) (by kernel_rfl) (by kernel_rfl) (by kernel_rfl) (by kernel_rfl) (by kernel_rfl) (by kernel_rfl) (by kernel_rfl) rfl rfl (by kernel_rfl) (by kernel_rfl) (by kernel_rfl) (by kernel_rfl) (by kernel_rfl) (by kernel_rfl) (by kernel_rfl) (by kernel_rfl) (by kernel_rfl) (by kernel_rfl) (by kernel_rfl) rfl rfl (by kernel_rfl) (by kernel_rfl) (by kernel_rfl)
theorem over_FnExactCubeOk : Rows.fnExactCubeOkRow.holds Try.pinned (OpenSpec.ofChange Rows.fnExactCubeOkSpec) :=
  OpenClaim.holds_of_wide 4 Try.f4 rfl rfl rfl rfl rfl rfl rfl ⟨rfl, rfl, rfl, rfl, rfl⟩ rfl rfl rfl rfl rfl (by kernel_rfl) Try.func4 facts_FnExactCubeOk
    (of_decide_eq_true (by kernel_rfl)) (by unfold Func.isWrapper; first | (rw [if_pos (by decide +kernel)]; kernel_rfl) | (rw [if_neg (by decide +kernel)]; exact ⟨rfl, rfl⟩))
    (fun os started H enc _ => lifted_FnExactCubeOk os started H enc)
theorem FnExactCubeOk_holds : Rows.FnExactCubeOkSaid := over_FnExactCubeOk

theorem walk_FnExactCubeHas (n c v k : Int) (w : World) : Calls Try.prog 7 #[.int .i64 n, .agg #[.int .i64 c, .int .i64 v], .int .i64 k] w fun e w' => e = .returned (.bool true) ∧ Below w.heap.size w w' := by
  go_enter Try.func7, Try.ntmps7
  go_wp2_with fail
  refine (l_toCube _ _ _).mono ?_
  rintro e w1 ⟨rfl, hb1⟩
  have z1 := hb1.size
  try simp at z1
  have q1_0 := fun o => (bcell hb1).1 (w.heap.size) o (by (try simp) <;> (try omega))
  have p1_0 := fun o => (bcell hb1).2 (w.heap.size) o (by (try simp) <;> (try omega))
  go_wp2_with fail
  refine (s_CubeHas _ _ _ _ _).mono ?_
  rintro e w2 ⟨rfl, hb2⟩
  have z2 := hb2.size
  try simp at z2
  have q2_0 := fun o => (bcell hb2).1 (w.heap.size) o (by (try simp) <;> (try omega))
  have p2_0 := fun o => (bcell hb2).2 (w.heap.size) o (by (try simp) <;> (try omega))
  go_wp2_with fail
  refine (l_toCube _ _ _).mono ?_
  rintro e w3 ⟨rfl, hb3⟩
  have z3 := hb3.size
  try simp at z3
  have q3_0 := fun o => (bcell hb3).1 (w.heap.size) o (by (try simp) <;> (try omega))
  have p3_0 := fun o => (bcell hb3).2 (w.heap.size) o (by (try simp) <;> (try omega))
  go_wp2_with fail
  refine (i_CubeHas _ _ _ _ _).mono ?_
  rintro e w4 ⟨rfl, hb4⟩
  have z4 := hb4.size
  try simp at z4
  have q4_0 := fun o => (bcell hb4).1 (w.heap.size) o (by (try simp) <;> (try omega))
  have p4_0 := fun o => (bcell hb4).2 (w.heap.size) o (by (try simp) <;> (try omega))
  go_wp2_with fail
  go_ret
  exact ⟨rfl, (by repeat (first | exact Below.refl _ _ | with_reducible assumption | refine below_drewN ?_ _ | refine Below.drew ?_ | refine Below.alloc ?_ (by (try simp) <;> (try omega)) _ | refine Below.setCell ?_ (by (try simp) <;> (try omega)) _ | refine Below.trans ?_ (Below.mono (by with_reducible assumption) (by (try simp) <;> (try omega)))))⟩
set_option maxRecDepth 100000 in
theorem lifted_FnExactCubeHas (os : Os) (started : os.Started) (H : Type) (enc : TypeId × Value → H) :
    ReturnsInHanded {} Try.checked os 7 .any (Rows.fnExactCubeHasSpec.pre6 enc Try.prog Try.f7 Rows.fnExactCubeHasRow.domain false) (Rows.fnExactCubeHasSpec.post enc Try.prog Try.f7 false true false false) := by
  refine lift (F := 7) (fn := Try.f7) (s := Rows.fnExactCubeHasSpec) (conds := Rows.fnExactCubeHasRow.domain) (by kernel_rfl) Try.func7 (by kernel_rfl) rfl (by kernel_rfl) ?_ ?_ os started H enc
    (ChangeSpec.witness6 (enc := enc) (C := Try.checked) false ⟨#[], #[.int .i64 0, .agg #[.int .i64 0, .int .i64 0], .int .i64 0], []⟩ 8 (by kernel_rfl) (by kernel_rfl) (by kernel_rfl) (by kernel_rfl))
  · intro H ds hl
    rw [Try.params7] at hl
    match ds, hl with
    | [d0, d1, d2], _ => exact ⟨rfl, rfl, rfl⟩
  · intro W base args H enc ds p hval hA hlt
    rw [Try.params7] at hA hval
    obtain ⟨v0, vs0, e0, es0, p0, q0, hargs, rfl, rfl, h0, r0⟩ := trodAll_cons hA
    obtain ⟨v1, vs1, e1, es1, p1, q1, rfl, rfl, rfl, h1, r1⟩ := trodAll_cons r0
    obtain ⟨v2, vs2, e2, es2, p2, q2, rfl, rfl, rfl, h2, r2⟩ := trodAll_cons r1
    obtain ⟨rfl, rfl, rfl⟩ := trodAll_nil r2
    obtain rfl : args = #[v0, v1, v2] := by cases args; simp_all
    obtain ⟨n, rfl, w0⟩ := op_int Try.underlying3 (hval 0 3 v0 rfl rfl) h0
    obtain ⟨c, v, rfl, w1a, w1b⟩ := op_agg2 Try.underlying24 (by kernel_rfl) (by kernel_rfl) (by kernel_rfl) (by kernel_rfl) (hval 1 24 v1 rfl rfl) h1
    obtain ⟨k, rfl, w2⟩ := op_int Try.underlying3 (hval 2 3 v2 rfl rfl) h2
    exact walk_FnExactCubeHas n c v k W
theorem facts_FnExactCubeHas : joinedFacts Try.pinned.checked.prog 7 Try.f7 Rows.fnExactCubeHasSpec Rows.fnExactCubeHasRow = true :=
  facts_of (P := Try.prog) mayE liftE makeE rfl rfl (by kernel_rfl) (by kernel_rfl) (by kernel_rfl) (by kernel_rfl) (by kernel_rfl) (by kernel_rfl) (by kernel_rfl) (by kernel_rfl) (by kernel_rfl) (by kernel_rfl) (by kernel_rfl) (by kernel_rfl) (by kernel_rfl) rfl rfl (by kernel_rfl) (by kernel_rfl) (by kernel_rfl) (by kernel_rfl) (by kernel_rfl) (by kernel_rfl) (by kernel_rfl) (by kernel_rfl) (by kernel_rfl) (by kernel_rfl) (by kernel_rfl) rfl rfl (by kernel_rfl) (by kernel_rfl) (by kernel_rfl)
theorem over_FnExactCubeHas : Rows.fnExactCubeHasRow.holds Try.pinned (OpenSpec.ofChange Rows.fnExactCubeHasSpec) :=
  OpenClaim.holds_of_wide 7 Try.f7 rfl rfl rfl rfl rfl rfl rfl ⟨rfl, rfl, rfl, rfl, rfl⟩ rfl rfl rfl rfl rfl (by kernel_rfl) Try.func7 facts_FnExactCubeHas
    (of_decide_eq_true (by kernel_rfl)) (by unfold Func.isWrapper; first | (rw [if_pos (by decide +kernel)]; kernel_rfl) | (rw [if_neg (by decide +kernel)]; exact ⟨rfl, rfl⟩))
    (fun os started H enc _ => lifted_FnExactCubeHas os started H enc)
theorem FnExactCubeHas_holds : Rows.FnExactCubeHasSaid := over_FnExactCubeHas

theorem walk_FnExactTableEval (n b k : Int) (w : World) : Calls Try.prog 8 #[.agg #[.int .i64 n, .int .i64 b], .int .i64 k] w fun e w' => e = .returned (.bool true) ∧ Below w.heap.size w w' := by
  go_enter Try.func8, Try.ntmps8
  go_wp2_with fail
  refine (l_toTable _ _ _).mono ?_
  rintro e w1 ⟨rfl, hb1⟩
  have z1 := hb1.size
  try simp at z1
  have q1_0 := fun o => (bcell hb1).1 (w.heap.size) o (by (try simp) <;> (try omega))
  have p1_0 := fun o => (bcell hb1).2 (w.heap.size) o (by (try simp) <;> (try omega))
  go_wp2_with fail
  refine (s_TableEval _ _ _ _).mono ?_
  rintro e w2 ⟨rfl, hb2⟩
  have z2 := hb2.size
  try simp at z2
  have q2_0 := fun o => (bcell hb2).1 (w.heap.size) o (by (try simp) <;> (try omega))
  have p2_0 := fun o => (bcell hb2).2 (w.heap.size) o (by (try simp) <;> (try omega))
  go_wp2_with fail
  refine (l_toTable _ _ _).mono ?_
  rintro e w3 ⟨rfl, hb3⟩
  have z3 := hb3.size
  try simp at z3
  have q3_0 := fun o => (bcell hb3).1 (w.heap.size) o (by (try simp) <;> (try omega))
  have p3_0 := fun o => (bcell hb3).2 (w.heap.size) o (by (try simp) <;> (try omega))
  go_wp2_with fail
  refine (i_TableEval _ _ _ _).mono ?_
  rintro e w4 ⟨rfl, hb4⟩
  have z4 := hb4.size
  try simp at z4
  have q4_0 := fun o => (bcell hb4).1 (w.heap.size) o (by (try simp) <;> (try omega))
  have p4_0 := fun o => (bcell hb4).2 (w.heap.size) o (by (try simp) <;> (try omega))
  go_wp2_with fail
  go_ret
  exact ⟨rfl, (by repeat (first | exact Below.refl _ _ | with_reducible assumption | refine below_drewN ?_ _ | refine Below.drew ?_ | refine Below.alloc ?_ (by (try simp) <;> (try omega)) _ | refine Below.setCell ?_ (by (try simp) <;> (try omega)) _ | refine Below.trans ?_ (Below.mono (by with_reducible assumption) (by (try simp) <;> (try omega)))))⟩
set_option maxRecDepth 100000 in
theorem lifted_FnExactTableEval (os : Os) (started : os.Started) (H : Type) (enc : TypeId × Value → H) :
    ReturnsInHanded {} Try.checked os 8 .any (Rows.fnExactTableEvalSpec.pre6 enc Try.prog Try.f8 Rows.fnExactTableEvalRow.domain false) (Rows.fnExactTableEvalSpec.post enc Try.prog Try.f8 false true false false) := by
  refine lift (F := 8) (fn := Try.f8) (s := Rows.fnExactTableEvalSpec) (conds := Rows.fnExactTableEvalRow.domain) (by kernel_rfl) Try.func8 (by kernel_rfl) rfl (by kernel_rfl) ?_ ?_ os started H enc
    (ChangeSpec.witness6 (enc := enc) (C := Try.checked) false ⟨#[], #[.agg #[.int .i64 0, .int .i64 0], .int .i64 0], []⟩ 8 (by kernel_rfl) (by kernel_rfl) (by kernel_rfl) (by kernel_rfl))
  · intro H ds hl
    rw [Try.params8] at hl
    match ds, hl with
    | [d0, d1], _ => exact ⟨rfl, rfl, rfl⟩
  · intro W base args H enc ds p hval hA hlt
    rw [Try.params8] at hA hval
    obtain ⟨v0, vs0, e0, es0, p0, q0, hargs, rfl, rfl, h0, r0⟩ := trodAll_cons hA
    obtain ⟨v1, vs1, e1, es1, p1, q1, rfl, rfl, rfl, h1, r1⟩ := trodAll_cons r0
    obtain ⟨rfl, rfl, rfl⟩ := trodAll_nil r1
    obtain rfl : args = #[v0, v1] := by cases args; simp_all
    obtain ⟨n, b, rfl, w0a, w0b⟩ := op_agg2 Try.underlying30 (by kernel_rfl) (by kernel_rfl) (by kernel_rfl) (by kernel_rfl) (hval 0 30 v0 rfl rfl) h0
    obtain ⟨k, rfl, w1⟩ := op_int Try.underlying3 (hval 1 3 v1 rfl rfl) h1
    exact walk_FnExactTableEval n b k W
theorem facts_FnExactTableEval : joinedFacts Try.pinned.checked.prog 8 Try.f8 Rows.fnExactTableEvalSpec Rows.fnExactTableEvalRow = true :=
  facts_of (P := Try.prog) mayE liftE makeE rfl rfl (by kernel_rfl) (by kernel_rfl) (by kernel_rfl) (by kernel_rfl) (by kernel_rfl) (by kernel_rfl) (by kernel_rfl) (by kernel_rfl) (by kernel_rfl) (by kernel_rfl) (by kernel_rfl) (by kernel_rfl) (by kernel_rfl) rfl rfl (by kernel_rfl) (by kernel_rfl) (by kernel_rfl) (by kernel_rfl) (by kernel_rfl) (by kernel_rfl) (by kernel_rfl) (by kernel_rfl) (by kernel_rfl) (by kernel_rfl) (by kernel_rfl) rfl rfl (by kernel_rfl) (by kernel_rfl) (by kernel_rfl)
theorem over_FnExactTableEval : Rows.fnExactTableEvalRow.holds Try.pinned (OpenSpec.ofChange Rows.fnExactTableEvalSpec) :=
  OpenClaim.holds_of_wide 8 Try.f8 rfl rfl rfl rfl rfl rfl rfl ⟨rfl, rfl, rfl, rfl, rfl⟩ rfl rfl rfl rfl rfl (by kernel_rfl) Try.func8 facts_FnExactTableEval
    (of_decide_eq_true (by kernel_rfl)) (by unfold Func.isWrapper; first | (rw [if_pos (by decide +kernel)]; kernel_rfl) | (rw [if_neg (by decide +kernel)]; exact ⟨rfl, rfl⟩))
    (fun os started H enc _ => lifted_FnExactTableEval os started H enc)
theorem FnExactTableEval_holds : Rows.FnExactTableEvalSaid := over_FnExactTableEval

end Go.Proofs.Ytcfpjcknilbinaa
