/- Law of minimal covers: for every table the program's MinimalCover is the reference's, and the list lies in memory of its own. Conditions: none. -/
import Derived.Test.YtbkgjgpoohlieaaFrame4
import Derived.Test.YtbkgjgpoohlieaaMin
namespace Go.Proofs.Ytbkgjgpoohlieaa
open Go.ChangeShapes Go.WideShapes Go.ChangeAt Go.RowKit

set_option maxRecDepth 100000 in
set_option maxHeartbeats 2000000 in
theorem walk_FnExactMinimalCover (n b : Int) (w : World) : Calls Try.prog 9 #[.agg #[.int .i64 n, .int .i64 b]] w fun e w' => e = .returned (.bool true) ∧ Below w.heap.size w w' := by
 have hlen := mCubes_len n b
 go_enter Try.func9, Try.ntmps9
 go_wp2_with fail
 refine (l_toTable _ _ _).mono ?_
 rintro e w1 ⟨rfl, hb1⟩
 have z1 := hb1.size
 try simp at z1
 (try have y1_0 : w.heap.size < w1.heap.size := (by omega))
 have q1_0 := fun o => (bcell hb1).1 (w.heap.size) o (by (try simp) <;> (try omega))
 have p1_0 := fun o => (bcell hb1).2 (w.heap.size) o (by (try simp) <;> (try omega))
 go_wp2_with fail
 refine (s_MinimalCover _ _ _).mono ?_
 rintro e w2 ⟨A1, c1, rfl, hown1, hb2⟩
 have z2 := hb2.size
 try simp at z2
 (try have y2_0 : w.heap.size < w2.heap.size := (by omega))
 have q2_0 := fun o => (bcell hb2).1 (w.heap.size) o (by (try simp) <;> (try omega))
 have p2_0 := fun o => (bcell hb2).2 (w.heap.size) o (by (try simp) <;> (try omega))
 have H1 := Lib.hid hown1
 clear hown1
 go_wp2_with fail
 refine (l_toTable _ _ _).mono ?_
 rintro e w3 ⟨rfl, hb3⟩
 have z3 := hb3.size
 try simp at z3
 (try have y3_0 : w.heap.size < w3.heap.size := (by omega))
 have q3_0 := fun o => (bcell hb3).1 (w.heap.size) o (by (try simp) <;> (try omega))
 have p3_0 := fun o => (bcell hb3).2 (w.heap.size) o (by (try simp) <;> (try omega))
 go_wp2_with fail
 refine (i_MinimalCover _ _ _).mono ?_
 rintro e w4 ⟨A2, c2, rfl, hown2, hb4⟩
 have z4 := hb4.size
 try simp at z4
 (try have y4_0 : w.heap.size < w4.heap.size := (by omega))
 have q4_0 := fun o => (bcell hb4).1 (w.heap.size) o (by (try simp) <;> (try omega))
 have p4_0 := fun o => (bcell hb4).2 (w.heap.size) o (by (try simp) <;> (try omega))
 have H2 := Lib.hid hown2
 have R1 := Lib.hid (((Reads.of_own H1.out).below hb3).more hb3.size |>.below hb4)
 clear hown2
 go_wp2_with fail
 refine (l_eqCubeS (by omega) (by omega) (Reads.of_own H2.out) R1.out (Nat.le_refl _) hb4.size).mono ?_
 rintro e w5 ⟨rfl, hb5⟩
 have z5 := hb5.size
 try simp at z5
 (try have y5_0 : w.heap.size < w5.heap.size := (by omega))
 have q5_0 := fun o => (bcell hb5).1 (w.heap.size) o (by (try simp) <;> (try omega))
 have p5_0 := fun o => (bcell hb5).2 (w.heap.size) o (by (try simp) <;> (try omega))
 have H2' := Lib.hid (own_below H2.out hb5 (Nat.le_refl _))
 have R1' := Lib.hid (R1.out.below (hb5.mono hb4.size))
 have z5' : w3.heap.size ≤ w5.heap.size := by omega
 go_wp2_with fail
 refine (l_markCubeS 1 (by omega) (by omega) (by omega) H2'.out).mono ?_
 rintro e w6 ⟨rfl, hown6, hg6⟩
 have hb6 := below_of_grown hg6 z5' (fun g hg => (H2'.out.lt g hg).1)
 have q6_0 : ∀ o, w6.cell? ⟨w.heap.size, o, none⟩ = w5.cell? ⟨w.heap.size, o, none⟩ := fun o => hb6.cell (p := ⟨w.heap.size, o, none⟩) y3_0
 have H6 := Lib.hid hown6
 have R6 := Lib.hid (R1'.out.below hb6)
 have z6 := hb6.size
 have y6_0 : w.heap.size < w6.heap.size := by omega
 clear hown6 hg6
 go_wp2_with fail
 refine (l_heldCubeS 1 (by omega) (by omega) (by omega) (Reads.of_own H6.out) (Nat.le_refl _)).mono ?_
 rintro e w' ⟨rfl, rfl⟩
 have t1 : ((1 : Int) + 2 * ((mCubes n b).length : Int) < 0) = False := by simp; omega
 go_wp2_with fail
 refine (l_toTable _ _ _).mono ?_
 rintro e w7 ⟨rfl, hb7⟩
 have z7 := hb7.size
 try simp at z7
 (try have y7_0 : w.heap.size < w7.heap.size := (by omega))
 have q7_0 := fun o => (bcell hb7).1 (w.heap.size) o (by (try simp) <;> (try omega))
 have p7_0 := fun o => (bcell hb7).2 (w.heap.size) o (by (try simp) <;> (try omega))
 go_wp2_with fail
 have z6' : w3.heap.size ≤ w6.heap.size := by omega
 have z7' : w3.heap.size ≤ w7.heap.size := by omega
 refine (i_MinimalCover _ _ _).mono ?_
 rintro e w8 ⟨A3, c3, rfl, hown8, hb8⟩
 have H8 := Lib.hid hown8
 have R8 := Lib.hid ((R6.out.below (hb7.mono z6')).below (hb8.mono z7'))
 have M8 := Lib.hid (((Reads.of_own H6.out).below hb7).below (hb8.mono hb7.size))
 clear hown8
 have z8 := hb8.size
 go_wp2_with fail
 refine (l_eqCubeS (by omega) (by omega) (Reads.of_own H8.out) R8.out (Nat.le_refl _) (by omega)).mono ?_
 rintro e w9 ⟨rfl, hb9⟩
 have M9 := Lib.hid (M8.out.below (hb9.mono (by omega)))
 have z9 := hb9.size
 go_wp2_with fail
 refine (l_heldCubeS 1 (by omega) (by omega) (by omega) M9.out (by omega)).mono ?_
 rintro e w' ⟨rfl, rfl⟩
 go_wp2_with fail
 go_ret
 exact ⟨rfl, bel_⟩
set_option maxRecDepth 100000 in
theorem lifted_FnExactMinimalCover (os : Os) (started : os.Started) (H : Type) (enc : TypeId × Value → H) :
  ReturnsInHanded {} Try.checked os 9 .any (Rows.fnExactMinimalCoverSpec.pre6 enc Try.prog Try.f9 Rows.fnExactMinimalCoverRow.domain false) (Rows.fnExactMinimalCoverSpec.post enc Try.prog Try.f9 false true false false) := by
 refine lift (F := 9) (fn := Try.f9) (s := Rows.fnExactMinimalCoverSpec) (conds := Rows.fnExactMinimalCoverRow.domain) (by kernel_rfl) Try.func9 (by kernel_rfl) rfl (by kernel_rfl) ?_ ?_ os started H enc
  (ChangeSpec.witness6 (enc := enc) (C := Try.checked) false ⟨#[], #[.agg #[.int .i64 0, .int .i64 0]], []⟩ 8 (by kernel_rfl) (by kernel_rfl) (by kernel_rfl) (by kernel_rfl))
 ·intro H ds hl
  rw [Try.params9] at hl
  match ds, hl with
  | [d0], _ => exact ⟨rfl, rfl, rfl⟩
 ·intro W base args H enc ds p hval hA hlt
  rw [Try.params9] at hA hval
  obtain ⟨v0, vs0, e0, es0, p0, q0, hargs, rfl, rfl, h0, r0⟩ := trodAll_cons hA
  obtain ⟨rfl, rfl, rfl⟩ := trodAll_nil r0
  obtain rfl : args = #[v0] := by cases args; simp_all
  obtain ⟨n, b, rfl, w0a, w0b⟩ := op_agg2 Try.underlying55 (by kernel_rfl) (by kernel_rfl) (by kernel_rfl) (by kernel_rfl) (hval 0 55 v0 rfl rfl) h0
  exact walk_FnExactMinimalCover n b W
theorem facts_FnExactMinimalCover : joinedFacts Try.pinned.checked.prog 9 Try.f9 Rows.fnExactMinimalCoverSpec Rows.fnExactMinimalCoverRow = true :=
 facts_of (P := Try.prog) mayE liftE makeE rfl rfl (by kernel_rfl) (by kernel_rfl) (by kernel_rfl) (by kernel_rfl) (by kernel_rfl) (by kernel_rfl) (by kernel_rfl) (by kernel_rfl) (by kernel_rfl) (by kernel_rfl) (by kernel_rfl) (by kernel_rfl) (by kernel_rfl) rfl rfl (by kernel_rfl) (by kernel_rfl) (by kernel_rfl) (by kernel_rfl) (by kernel_rfl) (by kernel_rfl) (by kernel_rfl) (by kernel_rfl) (by kernel_rfl) (by kernel_rfl) (by kernel_rfl) rfl rfl (by kernel_rfl) (by kernel_rfl) (by kernel_rfl)
theorem over_FnExactMinimalCover : Rows.fnExactMinimalCoverRow.holds Try.pinned (OpenSpec.ofChange Rows.fnExactMinimalCoverSpec) :=
 OpenClaim.holds_of_wide 9 Try.f9 rfl rfl rfl rfl rfl rfl rfl ⟨rfl, rfl, rfl, rfl, rfl⟩ rfl rfl rfl rfl rfl (by kernel_rfl) Try.func9 facts_FnExactMinimalCover
  (of_decide_eq_true (by kernel_rfl)) (by unfold Func.isWrapper; first | (rw [if_pos (by decide +kernel)]; kernel_rfl) | (rw [if_neg (by decide +kernel)]; exact ⟨rfl, rfl⟩))
  (fun os started H enc _ => lifted_FnExactMinimalCover os started H enc)
theorem FnExactMinimalCover_holds : Rows.FnExactMinimalCoverSaid := over_FnExactMinimalCover
end Go.Proofs.Ytbkgjgpoohlieaa
