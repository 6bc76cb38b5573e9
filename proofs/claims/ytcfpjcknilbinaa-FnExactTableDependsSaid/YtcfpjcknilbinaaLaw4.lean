/- Laws of tables: for every input the program's TableVar, TableNot, TableCofactor and TableDepends are the reference's. Conditions: none. -/
import Derived.Test.YtcfpjcknilbinaaFrame2
import Derived.Test.YtcfpjcknilbinaaTabG
namespace Go.Proofs.Ytcfpjcknilbinaa
open Go.ChangeShapes Go.WideShapes Go.ChangeAt Go.RowKit

set_option maxHeartbeats 1000000 in
theorem walk_FnExactTableNot (n b : Int) (w : World) : Calls Try.prog 15 #[.agg #[.int .i64 n, .int .i64 b]] w fun e w' => e = .returned (.bool true) ∧ Below w.heap.size w w' := by
  go_enter Try.func15, Try.ntmps15
  go_wp2_with fail
  refine (l_toTable _ _ _).mono ?_
  rintro e w1 ⟨rfl, hb1⟩
  have z1 := hb1.size
  try simp at z1
  (try have y1_0 : w.heap.size < w1.heap.size := (by omega))
  have q1_0 := fun o => (bcell hb1).1 (w.heap.size) o (by (try simp) <;> (try omega))
  have p1_0 := fun o => (bcell hb1).2 (w.heap.size) o (by (try simp) <;> (try omega))
  go_wp2_with fail
  refine (s_TableNot _ _ _).mono ?_
  rintro e w2 ⟨rfl, hb2⟩
  have z2 := hb2.size
  try simp at z2
  (try have y2_0 : w.heap.size < w2.heap.size := (by omega))
  have q2_0 := fun o => (bcell hb2).1 (w.heap.size) o (by (try simp) <;> (try omega))
  have p2_0 := fun o => (bcell hb2).2 (w.heap.size) o (by (try simp) <;> (try omega))
  go_wp2_with fail
  refine (l_toTable _ _ _).mono ?_
  rintro e w3 ⟨rfl, hb3⟩
  have z3 := hb3.size
  try simp at z3
  (try have y3_0 : w.heap.size < w3.heap.size := (by omega))
  have q3_0 := fun o => (bcell hb3).1 (w.heap.size) o (by (try simp) <;> (try omega))
  have p3_0 := fun o => (bcell hb3).2 (w.heap.size) o (by (try simp) <;> (try omega))
  (try have y3_1 : w2.heap.size < w3.heap.size := (by omega))
  have q3_1 := fun o => (bcell hb3).1 (w2.heap.size) o (by (try simp) <;> (try omega))
  have p3_1 := fun o => (bcell hb3).2 (w2.heap.size) o (by (try simp) <;> (try omega))
  go_wp2_with fail
  refine (i_TableNot _ _ _).mono ?_
  rintro e w4 ⟨rfl, hb4⟩
  have z4 := hb4.size
  try simp at z4
  (try have y4_0 : w.heap.size < w4.heap.size := (by omega))
  have q4_0 := fun o => (bcell hb4).1 (w.heap.size) o (by (try simp) <;> (try omega))
  have p4_0 := fun o => (bcell hb4).2 (w.heap.size) o (by (try simp) <;> (try omega))
  (try have y4_1 : w2.heap.size < w4.heap.size := (by omega))
  have q4_1 := fun o => (bcell hb4).1 (w2.heap.size) o (by (try simp) <;> (try omega))
  have p4_1 := fun o => (bcell hb4).2 (w2.heap.size) o (by (try simp) <;> (try omega))
  go_wp2_with fail
  refine (l_eqTable _ _ _ _ _).mono ?_
  rintro e w5 ⟨rfl, hb5⟩
  have z5 := hb5.size
  try simp at z5
  (try have y5_0 : w.heap.size < w5.heap.size := (by omega))
  have q5_0 := fun o => (bcell hb5).1 (w.heap.size) o (by (try simp) <;> (try omega))
  have p5_0 := fun o => (bcell hb5).2 (w.heap.size) o (by (try simp) <;> (try omega))
  go_wp2_with fail
  go_ret
  exact ⟨rfl, (by repeat (first | with_reducible exact Below.refl _ _ | with_reducible assumption | with_reducible refine below_drewN ?_ _ | with_reducible refine Below.drew ?_ | ((with_reducible refine Below.alloc ?_ ?_ _); rotate_left; (((try simp) <;> (try omega)) <;> done)) | ((with_reducible refine Below.setCell ?_ ?_ _); rotate_left; (((try simp) <;> (try omega)) <;> done)) | ((with_reducible refine Below.trans ?_ (Below.mono (by with_reducible assumption) ?_)); rotate_left; (((try simp) <;> (try omega)) <;> done))))⟩
set_option maxRecDepth 100000 in
theorem lifted_FnExactTableNot (os : Os) (started : os.Started) (H : Type) (enc : TypeId × Value → H) :
    ReturnsInHanded {} Try.checked os 15 .any (Rows.fnExactTableNotSpec.pre6 enc Try.prog Try.f15 Rows.fnExactTableNotRow.domain false) (Rows.fnExactTableNotSpec.post enc Try.prog Try.f15 false true false false) := by
  refine lift (F := 15) (fn := Try.f15) (s := Rows.fnExactTableNotSpec) (conds := Rows.fnExactTableNotRow.domain) (by kernel_rfl) Try.func15 (by kernel_rfl) rfl (by kernel_rfl) ?_ ?_ os started H enc
    (ChangeSpec.witness6 (enc := enc) (C := Try.checked) false ⟨#[], #[.agg #[.int .i64 0, .int .i64 0]], []⟩ 8 (by kernel_rfl) (by kernel_rfl) (by kernel_rfl) (by kernel_rfl))
  · intro H ds hl
    rw [Try.params15] at hl
    match ds, hl with
    | [d0], _ => exact ⟨rfl, rfl, rfl⟩
  · intro W base args H enc ds p hval hA hlt
    rw [Try.params15] at hA hval
    obtain ⟨v0, vs0, e0, es0, p0, q0, hargs, rfl, rfl, h0, r0⟩ := trodAll_cons hA
    obtain ⟨rfl, rfl, rfl⟩ := trodAll_nil r0
    obtain rfl : args = #[v0] := by cases args; simp_all
    obtain ⟨n, b, rfl, w0a, w0b⟩ := op_agg2 Try.underlying30 (by kernel_rfl) (by kernel_rfl) (by kernel_rfl) (by kernel_rfl) (hval 0 30 v0 rfl rfl) h0
    exact walk_FnExactTableNot n b W
theorem facts_FnExactTableNot : joinedFacts Try.pinned.checked.prog 15 Try.f15 Rows.fnExactTableNotSpec Rows.fnExactTableNotRow = true :=
  facts_of (P := Try.prog) mayE liftE makeE rfl rfl (by kernel_rfl) (by kernel_rfl) (by kernel_rfl) (by kernel_rfl) (by kernel_rfl) (by kernel_rfl) (by kernel_rfl) (by kernel_rfl) (by kernel_rfl) (by kernel_rfl) (by kernel_rfl) (by kernel_rfl) (by kernel_rfl) rfl rfl (by kernel_rfl) (by kernel_rfl) (by kernel_rfl) (by kernel_rfl) (by kernel_rfl) (by kernel_rfl) (by kernel_rfl) (by kernel_rfl) (by kernel_rfl) (by kernel_rfl) (by kernel_rfl) rfl rfl (by kernel_rfl) (by kernel_rfl) (by kernel_rfl)
theorem over_FnExactTableNot : Rows.fnExactTableNotRow.holds Try.pinned (OpenSpec.ofChange Rows.fnExactTableNotSpec) :=
  OpenClaim.holds_of_wide 15 Try.f15 rfl rfl rfl rfl rfl rfl rfl ⟨rfl, rfl, rfl, rfl, rfl⟩ rfl rfl rfl rfl rfl (by kernel_rfl) Try.func15 facts_FnExactTableNot
    (of_decide_eq_true (by kernel_rfl)) (by unfold Func.isWrapper; first | (rw [if_pos (by decide +kernel)]; kernel_rfl) | (rw [if_neg (by decide +kernel)]; exact ⟨rfl, rfl⟩))
    (fun os started H enc _ => lifted_FnExactTableNot os started H enc)
theorem FnExactTableNot_holds : Rows.FnExactTableNotSaid := over_FnExactTableNot

set_option maxHeartbeats 1000000 in
theorem walk_FnExactTableVar (n k : Int) (w : World) : Calls Try.prog 10 #[.int .i64 n, .int .i64 k] w fun e w' => e = .returned (.bool true) ∧ Below w.heap.size w w' := by
  go_enter Try.func10, Try.ntmps10
  go_wp2_with fail
  refine (s_TableVar _ _ _).mono ?_
  rintro e w1 ⟨rfl, hb1⟩
  have z1 := hb1.size
  try simp at z1
  go_wp2_with fail
  refine (i_TableVar _ _ _).mono ?_
  rintro e w2 ⟨rfl, hb2⟩
  have z2 := hb2.size
  try simp at z2
  (try have y2_0 : w1.heap.size < w2.heap.size := (by omega))
  have q2_0 := fun o => (bcell hb2).1 (w1.heap.size) o (by (try simp) <;> (try omega))
  have p2_0 := fun o => (bcell hb2).2 (w1.heap.size) o (by (try simp) <;> (try omega))
  go_wp2_with fail
  refine (l_eqTable _ _ _ _ _).mono ?_
  rintro e w3 ⟨rfl, hb3⟩
  have z3 := hb3.size
  try simp at z3
  go_wp2_with fail
  go_ret
  exact ⟨rfl, (by repeat (first | with_reducible exact Below.refl _ _ | with_reducible assumption | with_reducible refine below_drewN ?_ _ | with_reducible refine Below.drew ?_ | ((with_reducible refine Below.alloc ?_ ?_ _); rotate_left; (((try simp) <;> (try omega)) <;> done)) | ((with_reducible refine Below.setCell ?_ ?_ _); rotate_left; (((try simp) <;> (try omega)) <;> done)) | ((with_reducible refine Below.trans ?_ (Below.mono (by with_reducible assumption) ?_)); rotate_left; (((try simp) <;> (try omega)) <;> done))))⟩
set_option maxRecDepth 100000 in
theorem lifted_FnExactTableVar (os : Os) (started : os.Started) (H : Type) (enc : TypeId × Value → H) :
    ReturnsInHanded {} Try.checked os 10 .any (Rows.fnExactTableVarSpec.pre6 enc Try.prog Try.f10 Rows.fnExactTableVarRow.domain false) (Rows.fnExactTableVarSpec.post enc Try.prog Try.f10 false true false false) := by
  refine lift (F := 10) (fn := Try.f10) (s := Rows.fnExactTableVarSpec) (conds := Rows.fnExactTableVarRow.domain) (by kernel_rfl) Try.func10 (by kernel_rfl) rfl (by kernel_rfl) ?_ ?_ os started H enc
    (ChangeSpec.witness6 (enc := enc) (C := Try.checked) false ⟨#[], #[.int .i64 0, .int .i64 0], []⟩ 8 (by kernel_rfl) (by kernel_rfl) (by kernel_rfl) (by kernel_rfl))
  · intro H ds hl
    rw [Try.params10] at hl
    match ds, hl with
    | [d0, d1], _ => exact ⟨rfl, rfl, rfl⟩
  · intro W base args H enc ds p hval hA hlt
    rw [Try.params10] at hA hval
    obtain ⟨v0, vs0, e0, es0, p0, q0, hargs, rfl, rfl, h0, r0⟩ := trodAll_cons hA
    obtain ⟨v1, vs1, e1, es1, p1, q1, rfl, rfl, rfl, h1, r1⟩ := trodAll_cons r0
    obtain ⟨rfl, rfl, rfl⟩ := trodAll_nil r1
    obtain rfl : args = #[v0, v1] := by cases args; simp_all
    obtain ⟨n, rfl, w0⟩ := op_int Try.underlying3 (hval 0 3 v0 rfl rfl) h0
    obtain ⟨k, rfl, w1⟩ := op_int Try.underlying3 (hval 1 3 v1 rfl rfl) h1
    exact walk_FnExactTableVar n k W
theorem facts_FnExactTableVar : joinedFacts Try.pinned.checked.prog 10 Try.f10 Rows.fnExactTableVarSpec Rows.fnExactTableVarRow = true :=
  facts_of (P := Try.prog) mayE liftE makeE rfl rfl (by kernel_rfl) (by kernel_rfl) (by kernel_rfl) (by kernel_rfl) (by kernel_rfl) (by kernel_rfl) (by kernel_rfl) (by kernel_rfl) (by kernel_rfl) (by kernel_rfl) (by kernel_rfl) (by kernel_rfl) (by kernel_rfl) rfl rfl (by kernel_rfl) (by kernel_rfl) (by kernel_rfl) (by kernel_rfl) (by kernel_rfl) (by kernel_rfl) (by kernel_rfl) (by kernel_rfl) (by kernel_rfl) (by kernel_rfl) (by kernel_rfl) rfl rfl (by kernel_rfl) (by kernel_rfl) (by kernel_rfl)
theorem over_FnExactTableVar : Rows.fnExactTableVarRow.holds Try.pinned (OpenSpec.ofChange Rows.fnExactTableVarSpec) :=
  OpenClaim.holds_of_wide 10 Try.f10 rfl rfl rfl rfl rfl rfl rfl ⟨rfl, rfl, rfl, rfl, rfl⟩ rfl rfl rfl rfl rfl (by kernel_rfl) Try.func10 facts_FnExactTableVar
    (of_decide_eq_true (by kernel_rfl)) (by unfold Func.isWrapper; first | (rw [if_pos (by decide +kernel)]; kernel_rfl) | (rw [if_neg (by decide +kernel)]; exact ⟨rfl, rfl⟩))
    (fun os started H enc _ => lifted_FnExactTableVar os started H enc)
theorem FnExactTableVar_holds : Rows.FnExactTableVarSaid := over_FnExactTableVar

set_option maxHeartbeats 1000000 in
theorem walk_FnExactTableCofactor (n b k : Int) (v : Bool) (w : World) : Calls Try.prog 19 #[.agg #[.int .i64 n, .int .i64 b], .int .i64 k, .bool v] w fun e w' => e = .returned (.bool true) ∧ Below w.heap.size w w' := by
  go_enter Try.func19, Try.ntmps19
  go_wp2_with fail
  refine (l_toTable _ _ _).mono ?_
  rintro e w1 ⟨rfl, hb1⟩
  have z1 := hb1.size
  try simp at z1
  (try have y1_0 : w.heap.size < w1.heap.size := (by omega))
  have q1_0 := fun o => (bcell hb1).1 (w.heap.size) o (by (try simp) <;> (try omega))
  have p1_0 := fun o => (bcell hb1).2 (w.heap.size) o (by (try simp) <;> (try omega))
  go_wp2_with fail
  refine (s_TableCofactor _ _ _ _ _).mono ?_
  rintro e w2 ⟨rfl, hb2⟩
  have z2 := hb2.size
  try simp at z2
  (try have y2_0 : w.heap.size < w2.heap.size := (by omega))
  have q2_0 := fun o => (bcell hb2).1 (w.heap.size) o (by (try simp) <;> (try omega))
  have p2_0 := fun o => (bcell hb2).2 (w.heap.size) o (by (try simp) <;> (try omega))
  go_wp2_with fail
  refine (l_toTable _ _ _).mono ?_
  rintro e w3 ⟨rfl, hb3⟩
  have z3 := hb3.size
  try simp at z3
  (try have y3_0 : w.heap.size < w3.heap.size := (by omega))
  have q3_0 := fun o => (bcell hb3).1 (w.heap.size) o (by (try simp) <;> (try omega))
  have p3_0 := fun o => (bcell hb3).2 (w.heap.size) o (by (try simp) <;> (try omega))
  (try have y3_1 : w2.heap.size < w3.heap.size := (by omega))
  have q3_1 := fun o => (bcell hb3).1 (w2.heap.size) o (by (try simp) <;> (try omega))
  have p3_1 := fun o => (bcell hb3).2 (w2.heap.size) o (by (try simp) <;> (try omega))
  go_wp2_with fail
  refine (i_TableCofactor _ _ _ _ _).mono ?_
  rintro e w4 ⟨rfl, hb4⟩
  have z4 := hb4.size
  try simp at z4
  (try have y4_0 : w.heap.size < w4.heap.size := (by omega))
  have q4_0 := fun o => (bcell hb4).1 (w.heap.size) o (by (try simp) <;> (try omega))
  have p4_0 := fun o => (bcell hb4).2 (w.heap.size) o (by (try simp) <;> (try omega))
  (try have y4_1 : w2.heap.size < w4.heap.size := (by omega))
  have q4_1 := fun o => (bcell hb4).1 (w2.heap.size) o (by (try simp) <;> (try omega))
  have p4_1 := fun o => (bcell hb4).2 (w2.heap.size) o (by (try simp) <;> (try omega))
  go_wp2_with fail
  refine (l_eqTable _ _ _ _ _).mono ?_
  rintro e w5 ⟨rfl, hb5⟩
  have z5 := hb5.size
  try simp at z5
  (try have y5_0 : w.heap.size < w5.heap.size := (by omega))
  have q5_0 := fun o => (bcell hb5).1 (w.heap.size) o (by (try simp) <;> (try omega))
  have p5_0 := fun o => (bcell hb5).2 (w.heap.size) o (by (try simp) <;> (try omega))
  go_wp2_with fail
  go_ret
  exact ⟨rfl, (by repeat (first | with_reducible exact Below.refl _ _ | with_reducible assumption | with_reducible refine below_drewN ?_ _ | with_reducible refine Below.drew ?_ | ((with_reducible refine Below.alloc ?_ ?_ _); rotate_left; (((try simp) <;> (try omega)) <;> done)) | ((with_reducible refine Below.setCell ?_ ?_ _); rotate_left; (((try simp) <;> (try omega)) <;> done)) | ((with_reducible refine Below.trans ?_ (Below.mono (by with_reducible assumption) ?_)); rotate_left; (((try simp) <;> (try omega)) <;> done))))⟩
set_option maxRecDepth 100000 in
theorem lifted_FnExactTableCofactor (os : Os) (started : os.Started) (H : Type) (enc : TypeId × Value → H) :
    ReturnsInHanded {} Try.checked os 19 .any (Rows.fnExactTableCofactorSpec.pre6 enc Try.prog Try.f19 Rows.fnExactTableCofactorRow.domain false) (Rows.fnExactTableCofactorSpec.post enc Try.prog Try.f19 false true false false) := by
  refine lift (F := 19) (fn := Try.f19) (s := Rows.fnExactTableCofactorSpec) (conds := Rows.fnExactTableCofactorRow.domain) (by kernel_rfl) Try.func19 (by kernel_rfl) rfl (by kernel_rfl) ?_ ?_ os started H enc
    (ChangeSpec.witness6 (enc := enc) (C := Try.checked) false ⟨#[], #[.agg #[.int .i64 0, .int .i64 0], .int .i64 0, .bool false], []⟩ 8 (by kernel_rfl) (by kernel_rfl) (by kernel_rfl) (by kernel_rfl))
  · intro H ds hl
    rw [Try.params19] at hl
    match ds, hl with
    | [d0, d1, d2], _ => exact ⟨rfl, rfl, rfl⟩
  · intro W base args H enc ds p hval hA hlt
    rw [Try.params19] at hA hval
    obtain ⟨v0, vs0, e0, es0, p0, q0, hargs, rfl, rfl, h0, r0⟩ := trodAll_cons hA
    obtain ⟨v1, vs1, e1, es1, p1, q1, rfl, rfl, rfl, h1, r1⟩ := trodAll_cons r0
    obtain ⟨v2, vs2, e2, es2, p2, q2, rfl, rfl, rfl, h2, r2⟩ := trodAll_cons r1
    obtain ⟨rfl, rfl, rfl⟩ := trodAll_nil r2
    obtain rfl : args = #[v0, v1, v2] := by cases args; simp_all
    obtain ⟨n, b, rfl, w0a, w0b⟩ := op_agg2 Try.underlying30 (by kernel_rfl) (by kernel_rfl) (by kernel_rfl) (by kernel_rfl) (hval 0 30 v0 rfl rfl) h0
    obtain ⟨k, rfl, w1⟩ := op_int Try.underlying3 (hval 1 3 v1 rfl rfl) h1
    obtain ⟨v, rfl⟩ := op_bool Try.underlying4 (hval 2 4 v2 rfl rfl) h2
    exact walk_FnExactTableCofactor n b k v W
theorem facts_FnExactTableCofactor : joinedFacts Try.pinned.checked.prog 19 Try.f19 Rows.fnExactTableCofactorSpec Rows.fnExactTableCofactorRow = true :=
  facts_of (P := Try.prog) mayE liftE makeE rfl rfl (by kernel_rfl) (by kernel_rfl) (by kernel_rfl) (by kernel_rfl) (by kernel_rfl) (by kernel_rfl) (by kernel_rfl) (by kernel_rfl) (by kernel_rfl) (by kernel_rfl) (by kernel_rfl) (by kernel_rfl) (by kernel_rfl) rfl rfl (by kernel_rfl) (by kernel_rfl) (by kernel_rfl) (by kernel_rfl) (by kernel_rfl) (by kernel_rfl) (by kernel_rfl) (by kernel_rfl) (by kernel_rfl) (by kernel_rfl) (by kernel_rfl) rfl rfl (by kernel_rfl) (by kernel_rfl) (by kernel_rfl)
theorem over_FnExactTableCofactor : Rows.fnExactTableCofactorRow.holds Try.pinned (OpenSpec.ofChange Rows.fnExactTableCofactorSpec) :=
  OpenClaim.holds_of_wide 19 Try.f19 rfl rfl rfl rfl rfl rfl rfl ⟨rfl, rfl, rfl, rfl, rfl⟩ rfl rfl rfl rfl rfl (by kernel_rfl) Try.func19 facts_FnExactTableCofactor
    (of_decide_eq_true (by kernel_rfl)) (by unfold Func.isWrapper; first | (rw [if_pos (by decide +kernel)]; kernel_rfl) | (rw [if_neg (by decide +kernel)]; exact ⟨rfl, rfl⟩))
    (fun os started H enc _ => lifted_FnExactTableCofactor os started H enc)
theorem FnExactTableCofactor_holds : Rows.FnExactTableCofactorSaid := over_FnExactTableCofactor

set_option maxHeartbeats 1000000 in
theorem walk_FnExactTableDepends (n b k : Int) (w : World) : Calls Try.prog 18 #[.agg #[.int .i64 n, .int .i64 b], .int .i64 k] w fun e w' => e = .returned (.bool true) ∧ Below w.heap.size w w' := by
  go_enter Try.func18, Try.ntmps18
  go_wp2_with fail
  refine (l_toTable _ _ _).mono ?_
  rintro e w1 ⟨rfl, hb1⟩
  have z1 := hb1.size
  try simp at z1
  (try have y1_0 : w.heap.size < w1.heap.size := (by omega))
  have q1_0 := fun o => (bcell hb1).1 (w.heap.size) o (by (try simp) <;> (try omega))
  have p1_0 := fun o => (bcell hb1).2 (w.heap.size) o (by (try simp) <;> (try omega))
  go_wp2_with fail
  refine (s_TableDepends _ _ _ _).mono ?_
  rintro e w2 ⟨rfl, hb2⟩
  have z2 := hb2.size
  try simp at z2
  (try have y2_0 : w.heap.size < w2.heap.size := (by omega))
  have q2_0 := fun o => (bcell hb2).1 (w.heap.size) o (by (try simp) <;> (try omega))
  have p2_0 := fun o => (bcell hb2).2 (w.heap.size) o (by (try simp) <;> (try omega))
  go_wp2_with fail
  refine (l_toTable _ _ _).mono ?_
  rintro e w3 ⟨rfl, hb3⟩
  have z3 := hb3.size
  try simp at z3
  (try have y3_0 : w.heap.size < w3.heap.size := (by omega))
  have q3_0 := fun o => (bcell hb3).1 (w.heap.size) o (by (try simp) <;> (try omega))
  have p3_0 := fun o => (bcell hb3).2 (w.heap.size) o (by (try simp) <;> (try omega))
  go_wp2_with fail
  refine (i_TableDepends _ _ _ _).mono ?_
  rintro e w4 ⟨rfl, hb4⟩
  have z4 := hb4.size
  try simp at z4
  (try have y4_0 : w.heap.size < w4.heap.size := (by omega))
  have q4_0 := fun o => (bcell hb4).1 (w.heap.size) o (by (try simp) <;> (try omega))
  have p4_0 := fun o => (bcell hb4).2 (w.heap.size) o (by (try simp) <;> (try omega))
  go_wp2_with fail
  go_ret
  exact ⟨rfl, (by repeat (first | with_reducible exact Below.refl _ _ | with_reducible assumption | with_reducible refine below_drewN ?_ _ | with_reducible refine Below.drew ?_ | ((with_reducible refine Below.alloc ?_ ?_ _); rotate_left; (((try simp) <;> (try omega)) <;> done)) | ((with_reducible refine Below.setCell ?_ ?_ _); rotate_left; (((try simp) <;> (try omega)) <;> done)) | ((with_reducible refine Below.trans ?_ (Below.mono (by with_reducible assumption) ?_)); rotate_left; (((try simp) <;> (try omega)) <;> done))))⟩
set_option maxRecDepth 100000 in
theorem lifted_FnExactTableDepends (os : Os) (started : os.Started) (H : Type) (enc : TypeId × Value → H) :
    ReturnsInHanded {} Try.checked os 18 .any (Rows.fnExactTableDependsSpec.pre6 enc Try.prog Try.f18 Rows.fnExactTableDependsRow.domain false) (Rows.fnExactTableDependsSpec.post enc Try.prog Try.f18 false true false false) := by
  refine lift (F := 18) (fn := Try.f18) (s := Rows.fnExactTableDependsSpec) (conds := Rows.fnExactTableDependsRow.domain) (by kernel_rfl) Try.func18 (by kernel_rfl) rfl (by kernel_rfl) ?_ ?_ os started H enc
    (ChangeSpec.witness6 (enc := enc) (C := Try.checked) false ⟨#[], #[.agg #[.int .i64 0, .int .i64 0], .int .i64 0], []⟩ 8 (by kernel_rfl) (by kernel_rfl) (by kernel_rfl) (by kernel_rfl))
  · intro H ds hl
    rw [Try.params18] at hl
    match ds, hl with
    | [d0, d1], _ => exact ⟨rfl, rfl, rfl⟩
  · intro W base args H enc ds p hval hA hlt
    rw [Try.params18] at hA hval
    obtain ⟨v0, vs0, e0, es0, p0, q0, hargs, rfl, rfl, h0, r0⟩ := trodAll_cons hA
    obtain ⟨v1, vs1, e1, es1, p1, q1, rfl, rfl, rfl, h1, r1⟩ := trodAll_cons r0
    obtain ⟨rfl, rfl, rfl⟩ := trodAll_nil r1
    obtain rfl : args = #[v0, v1] := by cases args; simp_all
    obtain ⟨n, b, rfl, w0a, w0b⟩ := op_agg2 Try.underlying30 (by kernel_rfl) (by kernel_rfl) (by kernel_rfl) (by kernel_rfl) (hval 0 30 v0 rfl rfl) h0
    obtain ⟨k, rfl, w1⟩ := op_int Try.underlying3 (hval 1 3 v1 rfl rfl) h1
    exact walk_FnExactTableDepends n b k W
theorem facts_FnExactTableDepends : joinedFacts Try.pinned.checked.prog 18 Try.f18 Rows.fnExactTableDependsSpec Rows.fnExactTableDependsRow = true :=
  facts_of (P := Try.prog) mayE liftE makeE rfl rfl (by kernel_rfl) (by kernel_rfl) (by kernel_rfl) (by kernel_rfl) (by kernel_rfl) (by kernel_rfl) (by kernel_rfl) (by kernel_rfl) (by kernel_rfl) (by kernel_rfl) (by kernel_rfl) (by kernel_rfl) (by kernel_rfl) rfl rfl (by kernel_rfl) (by kernel_rfl) (by kernel_rfl) (by kernel_rfl) (by kernel_rfl) (by kernel_rfl) (by kernel_rfl) (by kernel_rfl) (by kernel_rfl) (by kernel_rfl) (by kernel_rfl) rfl rfl (by kernel_rfl) (by kernel_rfl) (by kernel_rfl)
theorem over_FnExactTableDepends : Rows.fnExactTableDependsRow.holds Try.pinned (OpenSpec.ofChange Rows.fnExactTableDependsSpec) :=
  OpenClaim.holds_of_wide 18 Try.f18 rfl rfl rfl rfl rfl rfl rfl ⟨rfl, rfl, rfl, rfl, rfl⟩ rfl rfl rfl rfl rfl (by kernel_rfl) Try.func18 facts_FnExactTableDepends
    (of_decide_eq_true (by kernel_rfl)) (by unfold Func.isWrapper; first | (rw [if_pos (by decide +kernel)]; kernel_rfl) | (rw [if_neg (by decide +kernel)]; exact ⟨rfl, rfl⟩))
    (fun os started H enc _ => lifted_FnExactTableDepends os started H enc)
theorem FnExactTableDepends_holds : Rows.FnExactTableDependsSaid := over_FnExactTableDepends
end Go.Proofs.Ytcfpjcknilbinaa
