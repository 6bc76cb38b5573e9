/- Law of tables: for every input the program's TableShrink is the reference's, and its list lies in memory of its own. Conditions: none. -/
import Derived.Test.YtcfpjcknilbinaaFrame2
import Derived.Test.YtcfpjcknilbinaaShrS
namespace Go.Proofs.Ytcfpjcknilbinaa
open Go.ChangeShapes Go.WideShapes Go.ChangeAt Go.RowKit

set_option maxRecDepth 100000 in
set_option maxHeartbeats 4000000 in
theorem walk_FnExactTableShrink (n b : Int) (w : World) : Calls Try.prog 29 #[.agg #[.int .i64 n, .int .i64 b]] w fun e w' => e = .returned (.bool true) ∧ Below w.heap.size w w' := by
  have hlen := tSup_len n b
  go_enter Try.func29, Try.ntmps29
  go_wp2_with fail
  refine (l_toTable _ _ _).mono ?_
  rintro e w1 ⟨rfl, hb1⟩
  have z1 := hb1.size
  try simp at z1
  (try have y1_0 : w.heap.size < w1.heap.size := (by omega))
  have q1_0 := fun o => (bcell hb1).1 (w.heap.size) o (by (try simp) <;> (try omega))
  have p1_0 := fun o => (bcell hb1).2 (w.heap.size) o (by (try simp) <;> (try omega))
  go_wp2_with fail
  refine (s_TableShrink _ _ _).mono ?_
  rintro e w2 ⟨A1, c1, rfl, hown1, hb2⟩
  have z2 := hb2.size
  try simp at z2
  (try have y2_0 : w.heap.size < w2.heap.size := (by omega))
  have q2_0 := fun o => (bcell hb2).1 (w.heap.size) o (by (try simp) <;> (try omega))
  have p2_0 := fun o => (bcell hb2).2 (w.heap.size) o (by (try simp) <;> (try omega))
  have H1 := Lib.hid hown1
  clear hown1
  go_wp2_with fail
  refine (l_toTable _ _ _).mono ?_
  rintro e w3 ⟨rfl, hb3⟩
  have z3 := hb3.size
  try simp at z3
  (try have y3_0 : w.heap.size < w3.heap.size := (by omega))
  have q3_0 := fun o => (bcell hb3).1 (w.heap.size) o (by (try simp) <;> (try omega))
  have p3_0 := fun o => (bcell hb3).2 (w.heap.size) o (by (try simp) <;> (try omega))
  (try have y3_1 : w2.heap.size < w3.heap.size := (by omega))
  have q3_1 := fun o => (bcell hb3).1 (w2.heap.size) o (by (try simp) <;> (try omega))
  have p3_1 := fun o => (bcell hb3).2 (w2.heap.size) o (by (try simp) <;> (try omega))
  go_wp2_with fail
  refine (i_TableShrink _ _ _).mono ?_
  rintro e w4 ⟨A2, c2, rfl, hown2, hb4⟩
  have z4 := hb4.size
  try simp at z4
  (try have y4_0 : w.heap.size < w4.heap.size := (by omega))
  have q4_0 := fun o => (bcell hb4).1 (w.heap.size) o (by (try simp) <;> (try omega))
  have p4_0 := fun o => (bcell hb4).2 (w.heap.size) o (by (try simp) <;> (try omega))
  (try have y4_1 : w2.heap.size < w4.heap.size := (by omega))
  have q4_1 := fun o => (bcell hb4).1 (w2.heap.size) o (by (try simp) <;> (try omega))
  have p4_1 := fun o => (bcell hb4).2 (w2.heap.size) o (by (try simp) <;> (try omega))
  have H2 := Lib.hid hown2
  have R1 := Lib.hid (((((Reads.of_own H1.out).alloc (Nat.le_refl _) _).below (hb3.mono (by simp))).more (B' := w3.heap.size) (by omega)).below hb4)
  clear hown2
  go_wp2_with fail
  refine (l_eqTable _ _ _ _ _).mono ?_
  rintro e w5 ⟨rfl, hb5⟩
  have z5 := hb5.size
  try simp at z5
  (try have y5_0 : w.heap.size < w5.heap.size := (by omega))
  have q5_0 := fun o => (bcell hb5).1 (w.heap.size) o (by (try simp) <;> (try omega))
  have p5_0 := fun o => (bcell hb5).2 (w.heap.size) o (by (try simp) <;> (try omega))
  (try have y5_1 : w2.heap.size < w5.heap.size := (by omega))
  have q5_1 := fun o => (bcell hb5).1 (w2.heap.size) o (by (try simp) <;> (try omega))
  have p5_1 := fun o => (bcell hb5).2 (w2.heap.size) o (by (try simp) <;> (try omega))
  (try have y5_2 : w4.heap.size < w5.heap.size := (by omega))
  have q5_2 := fun o => (bcell hb5).1 (w4.heap.size) o (by (try simp) <;> (try omega))
  have p5_2 := fun o => (bcell hb5).2 (w4.heap.size) o (by (try simp) <;> (try omega))
  go_wp2_with fail
  have H2' := Lib.hid (own_below (H2.out.alloc (.cells #[.int .i64 (tShr n b).1, .int .i64 (tShr n b).2] 32)) hb5 (Nat.le_refl _))
  have R1' := Lib.hid ((R1.out.alloc z4 (.cells #[.int .i64 (tShr n b).1, .int .i64 (tShr n b).2] 32)).below (hb5.mono (by simp; omega)))
  have zz1 : w3.heap.size ≤ w5.heap.size := by omega
  refine (l_eqIntS (by omega) (by omega) (Reads.of_own H2'.out) R1'.out (Nat.le_refl _) zz1).mono ?_
  rintro e w6 ⟨rfl, hb6⟩
  have z6 := hb6.size
  try simp at z6
  (try have y6_0 : w.heap.size < w6.heap.size := (by omega))
  have q6_0 := fun o => (bcell hb6).1 (w.heap.size) o (by (try simp) <;> (try omega))
  have p6_0 := fun o => (bcell hb6).2 (w.heap.size) o (by (try simp) <;> (try omega))
  (try have y6_1 : w2.heap.size < w6.heap.size := (by omega))
  have q6_1 := fun o => (bcell hb6).1 (w2.heap.size) o (by (try simp) <;> (try omega))
  have p6_1 := fun o => (bcell hb6).2 (w2.heap.size) o (by (try simp) <;> (try omega))
  (try have y6_2 : w4.heap.size < w6.heap.size := (by omega))
  have q6_2 := fun o => (bcell hb6).1 (w4.heap.size) o (by (try simp) <;> (try omega))
  have p6_2 := fun o => (bcell hb6).2 (w4.heap.size) o (by (try simp) <;> (try omega))
  have H6 := Lib.hid (own_below H2'.out hb6 (Nat.le_refl _))
  have R6 := Lib.hid (R1'.out.below (hb6.mono zz1))
  have zz2 : w3.heap.size ≤ w6.heap.size := by omega
  go_wp2_with fail
  refine (l_markIntS 1 (by omega) (by omega) (by omega) H6.out).mono ?_
  rintro e w7 ⟨rfl, hown7, hg7⟩
  have hb7 := below_of_grown hg7 zz2 (fun g hg => (H6.out.lt g hg).1)
  have q7_0 : ∀ o, w7.cell? ⟨w.heap.size, o, none⟩ = w6.cell? ⟨w.heap.size, o, none⟩ := fun o => hb7.cell (p := ⟨w.heap.size, o, none⟩) y3_0
  have q7_1 : ∀ o, w7.cell? ⟨w2.heap.size, o, none⟩ = w6.cell? ⟨w2.heap.size, o, none⟩ := fun o => hb7.cell (p := ⟨w2.heap.size, o, none⟩) y3_1
  have H7 := Lib.hid hown7
  have R7 := Lib.hid (R6.out.below hb7)
  have z7 := hb7.size
  have y7_0 : w.heap.size < w7.heap.size := by omega
  have y7_1 : w2.heap.size < w7.heap.size := by omega
  clear hown7 hg7
  go_wp2_with fail
  refine (l_heldIntS 1 (by omega) (by omega) (by omega) (Reads.of_own H7.out) (Nat.le_refl _)).mono ?_
  rintro e w' ⟨rfl, rfl⟩
  have t1 : ((1 : Int) + ((tSup n b).length : Int) < 0) = False := by simp; omega
  go_wp2_with fail
  refine (l_toTable _ _ _).mono ?_
  rintro e w8 ⟨rfl, hb8⟩
  have z8 := hb8.size
  try simp at z8
  (try have y8_0 : w.heap.size < w8.heap.size := (by omega))
  have q8_0 := fun o => (bcell hb8).1 (w.heap.size) o (by (try simp) <;> (try omega))
  have p8_0 := fun o => (bcell hb8).2 (w.heap.size) o (by (try simp) <;> (try omega))
  (try have y8_1 : w2.heap.size < w8.heap.size := (by omega))
  have q8_1 := fun o => (bcell hb8).1 (w2.heap.size) o (by (try simp) <;> (try omega))
  have p8_1 := fun o => (bcell hb8).2 (w2.heap.size) o (by (try simp) <;> (try omega))
  go_wp2_with fail
  refine (i_TableShrink _ _ _).mono ?_
  rintro e w9 ⟨A3, c3, rfl, hown9, hb9⟩
  have z9 := hb9.size
  try simp at z9
  (try have y9_0 : w.heap.size < w9.heap.size := (by omega))
  have q9_0 := fun o => (bcell hb9).1 (w.heap.size) o (by (try simp) <;> (try omega))
  have p9_0 := fun o => (bcell hb9).2 (w.heap.size) o (by (try simp) <;> (try omega))
  (try have y9_1 : w2.heap.size < w9.heap.size := (by omega))
  have q9_1 := fun o => (bcell hb9).1 (w2.heap.size) o (by (try simp) <;> (try omega))
  have p9_1 := fun o => (bcell hb9).2 (w2.heap.size) o (by (try simp) <;> (try omega))
  have zz3 : w3.heap.size ≤ w7.heap.size := by omega
  have zz4 : w3.heap.size ≤ w8.heap.size := by omega
  have zz5 : w3.heap.size ≤ w9.heap.size := by omega
  have H9 := Lib.hid hown9
  have R9 := Lib.hid ((R7.out.below (hb8.mono zz3)).below (hb9.mono zz4))
  have M9 := Lib.hid (((Reads.of_own H7.out).below hb8).below (hb9.mono hb8.size))
  clear hown9
  go_wp2_with fail
  refine (l_eqTable _ _ _ _ _).mono ?_
  rintro e w10 ⟨rfl, hb10⟩
  have z10 := hb10.size
  try simp at z10
  (try have y10_0 : w.heap.size < w10.heap.size := (by omega))
  have q10_0 := fun o => (bcell hb10).1 (w.heap.size) o (by (try simp) <;> (try omega))
  have p10_0 := fun o => (bcell hb10).2 (w.heap.size) o (by (try simp) <;> (try omega))
  go_wp2_with fail
  have H10 := Lib.hid (own_below (H9.out.alloc (.cells #[.int .i64 (tShr n b).1, .int .i64 (tShr n b).2] 32)) hb10 (Nat.le_refl _))
  have R10 := Lib.hid ((R9.out.alloc zz5 (.cells #[.int .i64 (tShr n b).1, .int .i64 (tShr n b).2] 32)).below (hb10.mono (by simp; omega)))
  have M10 := Lib.hid ((M9.out.alloc (by omega) (.cells #[.int .i64 (tShr n b).1, .int .i64 (tShr n b).2] 32)).below (hb10.mono (by simp; omega)))
  refine (l_eqIntS (by omega) (by omega) (Reads.of_own H10.out) R10.out (Nat.le_refl _) (by omega)).mono ?_
  rintro e w11 ⟨rfl, hb11⟩
  have M11 := Lib.hid (M10.out.below (hb11.mono (by omega)))
  have z11 := hb11.size
  go_wp2_with fail
  refine (l_heldIntS 1 (by omega) (by omega) (by omega) M11.out (by omega)).mono ?_
  rintro e w' ⟨rfl, rfl⟩
  go_wp2_with fail
  go_ret
  exact ⟨rfl, (by repeat (first | with_reducible exact Below.refl _ _ | with_reducible assumption | with_reducible refine below_drewN ?_ _ | with_reducible refine Below.drew ?_ | ((with_reducible refine Below.alloc ?_ ?_ _); rotate_left; (((try simp) <;> (try omega)) <;> done)) | ((with_reducible refine Below.setCell ?_ ?_ _); rotate_left; (((try simp) <;> (try omega)) <;> done)) | ((with_reducible refine Below.trans ?_ (Below.mono (by with_reducible assumption) ?_)); rotate_left; (((try simp) <;> (try omega)) <;> done))))⟩
set_option maxRecDepth 100000 in
theorem lifted_FnExactTableShrink (os : Os) (started : os.Started) (H : Type) (enc : TypeId × Value → H) :
    ReturnsInHanded {} Try.checked os 29 .any (Rows.fnExactTableShrinkSpec.pre6 enc Try.prog Try.f29 Rows.fnExactTableShrinkRow.domain false) (Rows.fnExactTableShrinkSpec.post enc Try.prog Try.f29 false true false false) := by
  refine lift (F := 29) (fn := Try.f29) (s := Rows.fnExactTableShrinkSpec) (conds := Rows.fnExactTableShrinkRow.domain) (by kernel_rfl) Try.func29 (by kernel_rfl) rfl (by kernel_rfl) ?_ ?_ os started H enc
    (ChangeSpec.witness6 (enc := enc) (C := Try.checked) false ⟨#[], #[.agg #[.int .i64 0, .int .i64 0]], []⟩ 8 (by kernel_rfl) (by kernel_rfl) (by kernel_rfl) (by kernel_rfl))
  · intro H ds hl
    rw [Try.params29] at hl
    match ds, hl with
    | [d0], _ => exact ⟨rfl, rfl, rfl⟩
  · intro W base args H enc ds p hval hA hlt
    rw [Try.params29] at hA hval
    obtain ⟨v0, vs0, e0, es0, p0, q0, hargs, rfl, rfl, h0, r0⟩ := trodAll_cons hA
    obtain ⟨rfl, rfl, rfl⟩ := trodAll_nil r0
    obtain rfl : args = #[v0] := by cases args; simp_all
    obtain ⟨n, b, rfl, w0a, w0b⟩ := op_agg2 Try.underlying30 (by kernel_rfl) (by kernel_rfl) (by kernel_rfl) (by kernel_rfl) (hval 0 30 v0 rfl rfl) h0
    exact walk_FnExactTableShrink n b W
theorem facts_FnExactTableShrink : joinedFacts Try.pinned.checked.prog 29 Try.f29 Rows.fnExactTableShrinkSpec Rows.fnExactTableShrinkRow = true :=
  facts_of (P := Try.prog) mayE liftE makeE rfl rfl (by kernel_rfl) (by kernel_rfl) (by kernel_rfl) (by kernel_rfl) (by kernel_rfl) (by kernel_rfl) (by kernel_rfl) (by kernel_rfl) (by kernel_rfl) (by kernel_rfl) (by kernel_rfl) (by kernel_rfl) (by kernel_rfl) rfl rfl (by kernel_rfl) (by kernel_rfl) (by kernel_rfl) (by kernel_rfl) (by kernel_rfl) (by kernel_rfl) (by kernel_rfl) (by kernel_rfl) (by kernel_rfl) (by kernel_rfl) (by kernel_rfl) rfl rfl (by kernel_rfl) (by kernel_rfl) (by kernel_rfl)
theorem over_FnExactTableShrink : Rows.fnExactTableShrinkRow.holds Try.pinned (OpenSpec.ofChange Rows.fnExactTableShrinkSpec) :=
  OpenClaim.holds_of_wide 29 Try.f29 rfl rfl rfl rfl rfl rfl rfl ⟨rfl, rfl, rfl, rfl, rfl⟩ rfl rfl rfl rfl rfl (by kernel_rfl) Try.func29 facts_FnExactTableShrink
    (of_decide_eq_true (by kernel_rfl)) (by unfold Func.isWrapper; first | (rw [if_pos (by decide +kernel)]; kernel_rfl) | (rw [if_neg (by decide +kernel)]; exact ⟨rfl, rfl⟩))
    (fun os started H enc _ => lifted_FnExactTableShrink os started H enc)
theorem FnExactTableShrink_holds : Rows.FnExactTableShrinkSaid := over_FnExactTableShrink
end Go.Proofs.Ytcfpjcknilbinaa
