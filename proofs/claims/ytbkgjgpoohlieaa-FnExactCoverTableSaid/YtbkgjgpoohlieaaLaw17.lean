/- Law of a cover's table: for every number of inputs and every list of cubes the program's CoverTable is the reference's. Conditions: none. -/
import Derived.Test.YtbkgjgpoohlieaaFrame4
import Derived.Test.YtbkgjgpoohlieaaCovT
import Derived.Test.YtbkgjgpoohlieaaTab2
import Derived.Test.YtbkgjgpoohlieaaCub
import Derived.Outline
namespace Go.Proofs.Ytbkgjgpoohlieaa
open Go.ChangeShapes Go.WideShapes Go.ChangeAt Go.RowKit

set_option maxRecDepth 100000 in
set_option maxHeartbeats 4000000 in
theorem walk_FnExactCoverTable (m : Int) (A : Option Addr) (n c : Nat) (l : List (Int × Int)) (hn : n ≤ maxLen) (w : World) (hr : Reads w w.heap.size 2 A n (cbs l)) : Calls Try.prog 7 #[.int .i64 m, .slice A n c] w fun e w' => e = .returned (.bool true) ∧ Below w.heap.size w w' := by
 have hll := hr.clen
 by_cases hb : n ≤ 1048576
 ·have Hsz := Lib.hid (l_szCubeS A n c 1048576 (by omega) hn w)
  rw [if_pos hb] at Hsz
  have Hll := Lib.hid hll
  clear hll hn
  go_enter Try.func7, Try.ntmps7
  go_wp2_with (first | (go_at_call 30; refine Hsz.out.mono ?_; rintro e w' ⟨rfl, rfl⟩))
  refine (l_toCubeS hb hr (Nat.le_refl _)).mono ?_
  rintro e w1 ⟨A1, c1, rfl, hown1, hb1⟩
  rw [Hll.out] at hown1 ⊢
  have R1 := Lib.hid (Reads.of_own hown1)
  have Hb1 := Lib.hid hb1
  clear hown1 hb1
  go_wp2_with fail
  refine (s_CoverTable m R1.out (Nat.le_refl _) (by omega)).mono ?_
  rintro e w2 ⟨rfl, hb2⟩
  have Hb2 := Lib.hid (Hb1.out.trans (hb2.mono Hb1.out.size))
  have HT2 := Lib.hid (Blk.new w2 31 #[.int .i64 (cTab m l).1, .int .i64 (cTab m l).2])
  have Hb2' := Lib.hid (Hb2.out.alloc Hb2.out.size (.cells #[.int .i64 (cTab m l).1, .int .i64 (cTab m l).2] 31))
  clear hb2
  go_wp2_with fail
  refine (l_toCubeS hb (hr.below Hb2'.out) Hb2'.out.size).mono ?_
  rintro e w3 ⟨A3, c3, rfl, hown3, hb3⟩
  rw [Hll.out] at hown3 ⊢
  have R3 := Lib.hid (Reads.of_own hown3)
  have Hb3 := Lib.hid (Hb2'.out.trans (hb3.mono Hb2'.out.size))
  have HT3 := Lib.hid (HT2.out.below hb3 HT2.out.lt)
  clear hown3 hb3
  go_wp2_with fail
  refine (i_CoverTable m R3.out (Nat.le_refl _) (by omega)).mono ?_
  rintro e w4 ⟨rfl, hb4⟩
  have R4 := Lib.hid (((R3.out.below hb4).more (B' := w4.heap.size) hb4.size).alloc (Nat.le_refl _) (.cells #[.int .i64 (cTab m l).1, .int .i64 (cTab m l).2] 31))
  have HT4 := Lib.hid ((HT3.out.below hb4 HT3.out.lt).alloc (.cells #[.int .i64 (cTab m l).1, .int .i64 (cTab m l).2] 31))
  have HS4 := Lib.hid (Blk.new w4 31 #[.int .i64 (cTab m l).1, .int .i64 (cTab m l).2])
  have Hb4 := Lib.hid ((Hb3.out.trans (hb4.mono Hb3.out.size)).alloc (Nat.le_trans Hb3.out.size hb4.size) (.cells #[.int .i64 (cTab m l).1, .int .i64 (cTab m l).2] 31))
  clear hb4
  obtain ⟨t0, t1⟩ := blk2c HT4.out
  go_wp2_with fail
  refine (l_eqTable _ _ _ _ _).mono ?_
  rintro e w4b ⟨rfl, hb4b⟩
  have R4b := Lib.hid (R4.out.below (hb4b.mono (by simp)))
  have Hb4b := Lib.hid (Hb4.out.trans (hb4b.mono Hb4.out.size))
  have z4b := hb4b.size
  simp at z4b
  clear hb4b t0 t1
  go_wp2_with fail
  refine (l_toCubeS hb (hr.below Hb4b.out) Hb4b.out.size).mono ?_
  rintro e w5 ⟨A5, c5, rfl, hown5, hb5⟩
  rw [Hll.out] at hown5 ⊢
  have R5 := Lib.hid (Reads.of_own hown5)
  have Q5 := Lib.hid (((R4b.out.more (B' := w4b.heap.size) (by omega)).below hb5).more (B' := w5.heap.size) hb5.size)
  have Hb5 := Lib.hid (Hb4b.out.trans (hb5.mono Hb4b.out.size))
  clear hown5 hb5
  go_wp2_with fail
  refine (l_eqCubeS (by omega) (by omega) Q5.out R5.out (Nat.le_refl _) (Nat.le_refl _)).mono ?_
  rintro e w6 ⟨rfl, hb6⟩
  have Hb6 := Lib.hid (Hb5.out.trans (hb6.mono Hb5.out.size))
  clear hb6
  go_wp2_with fail
  go_ret
  exact ⟨rfl, Hb6.out⟩
 ·have Hsz := Lib.hid (l_szCubeS A n c 1048576 (by omega) hn w)
  rw [if_neg hb] at Hsz
  clear hll hn
  go_enter Try.func7, Try.ntmps7
  go_wp2_with (first | (go_at_call 30; refine Hsz.out.mono ?_; rintro e w' ⟨rfl, rfl⟩))
  go_ret
  exact ⟨rfl, Below.refl _ _⟩
set_option maxRecDepth 100000 in
theorem lifted_FnExactCoverTable (os : Os) (started : os.Started) (H : Type) (enc : TypeId × Value → H) :
  ReturnsInHanded {} Try.checked os 7 .any (Rows.fnExactCoverTableSpec.pre6 enc Try.prog Try.f7 Rows.fnExactCoverTableRow.domain false) (Rows.fnExactCoverTableSpec.post enc Try.prog Try.f7 false true false false) := by
 refine lift (F := 7) (fn := Try.f7) (s := Rows.fnExactCoverTableSpec) (conds := Rows.fnExactCoverTableRow.domain) (by kernel_rfl) Try.func7 (by kernel_rfl) rfl (by kernel_rfl) ?_ ?_ os started H enc
  (ChangeSpec.witness6 (enc := enc) (C := Try.checked) false ⟨#[], #[.int .i64 0, .slice none 0 0], []⟩ 8 (by kernel_rfl) (by kernel_rfl) (by kernel_rfl) (by kernel_rfl))
 ·intro H ds hl
  rw [Try.params7] at hl
  match ds, hl with
  | [d0, d1], _ => exact ⟨rfl, rfl, rfl⟩
 ·intro W base args H enc ds p hval hA hlt
  rw [Try.params7] at hA hval
  obtain ⟨v0, vs0, e0, es0, p0, q0, hargs, rfl, rfl, h0, r0⟩ := trodAll_cons hA
  obtain ⟨v1, vs1, e1, es1, p1, q1, rfl, rfl, rfl, h1, r1⟩ := trodAll_cons r0
  obtain ⟨rfl, rfl, rfl⟩ := trodAll_nil r1
  obtain rfl : args = #[v0, v1] := by cases args; simp_all
  obtain ⟨m, rfl, w0⟩ := op_int Try.underlying3 (hval 0 3 v0 rfl rfl) h0
  obtain ⟨A1, n1, c1, l, rfl, m1, w1⟩ := op_cubes Try.underlying46 Try.underlying77 (by kernel_rfl) (by kernel_rfl) (by kernel_rfl) (by kernel_rfl) (hval 1 46 v1 rfl rfl) h1 (fun x hx => hlt x (by simp [hx]))
  exact walk_FnExactCoverTable m A1 n1 c1 l m1 W w1
theorem facts_FnExactCoverTable : joinedFacts Try.pinned.checked.prog 7 Try.f7 Rows.fnExactCoverTableSpec Rows.fnExactCoverTableRow = true :=
 facts_of (P := Try.prog) mayE liftE makeE rfl rfl (by kernel_rfl) (by kernel_rfl) (by kernel_rfl) (by kernel_rfl) (by kernel_rfl) (by kernel_rfl) (by kernel_rfl) (by kernel_rfl) (by kernel_rfl) (by kernel_rfl) (by kernel_rfl) (by kernel_rfl) (by kernel_rfl) rfl rfl (by kernel_rfl) (by kernel_rfl) (by kernel_rfl) (by kernel_rfl) (by kernel_rfl) (by kernel_rfl) (by kernel_rfl) (by kernel_rfl) (by kernel_rfl) (by kernel_rfl) (by kernel_rfl) rfl rfl (by kernel_rfl) (by kernel_rfl) (by kernel_rfl)
theorem over_FnExactCoverTable : Rows.fnExactCoverTableRow.holds Try.pinned (OpenSpec.ofChange Rows.fnExactCoverTableSpec) :=
 OpenClaim.holds_of_wide 7 Try.f7 rfl rfl rfl rfl rfl rfl rfl ⟨rfl, rfl, rfl, rfl, rfl⟩ rfl rfl rfl rfl rfl (by kernel_rfl) Try.func7 facts_FnExactCoverTable
  (of_decide_eq_true (by kernel_rfl)) (by unfold Func.isWrapper; first | (rw [if_pos (by decide +kernel)]; kernel_rfl) | (rw [if_neg (by decide +kernel)]; exact ⟨rfl, rfl⟩))
  (fun os started H enc _ => lifted_FnExactCoverTable os started H enc)
theorem FnExactCoverTable_holds : Rows.FnExactCoverTableSaid := over_FnExactCoverTable
end Go.Proofs.Ytbkgjgpoohlieaa
