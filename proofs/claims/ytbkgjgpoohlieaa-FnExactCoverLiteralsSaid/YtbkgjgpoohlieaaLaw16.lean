/- Law of literals: for every number of inputs and every list of cubes the program's CoverLiterals is the reference's. Conditions: none. -/
import Derived.Test.YtbkgjgpoohlieaaFrame4
import Derived.Test.YtbkgjgpoohlieaaCovX
import Derived.Test.YtbkgjgpoohlieaaCub
import Derived.Outline
namespace Go.Proofs.Ytbkgjgpoohlieaa
open Go.ChangeShapes Go.WideShapes Go.ChangeAt Go.RowKit

set_option maxRecDepth 100000 in
set_option maxHeartbeats 4000000 in
theorem walk_FnExactCoverLiterals (m : Int) (A : Option Addr) (n c : Nat) (l : List (Int × Int)) (hn : n ≤ maxLen) (w : World) (hr : Reads w w.heap.size 2 A n (cbs l)) : Calls Try.prog 6 #[.int .i64 m, .slice A n c] w fun e w' => e = .returned (.bool true) ∧ Below w.heap.size w w' := by
 have hll := hr.clen
 by_cases hb : n ≤ 1048576
 ·have Hsz := Lib.hid (l_szCubeS A n c 1048576 (by omega) hn w)
  rw [if_pos hb] at Hsz
  have Hll := Lib.hid hll
  clear hll hn
  go_enter Try.func6, Try.ntmps6
  go_wp2_with (first | (go_at_call 30; refine Hsz.out.mono ?_; rintro e w' ⟨rfl, rfl⟩))
  refine (l_toCubeS hb hr (Nat.le_refl _)).mono ?_
  rintro e w1 ⟨A1, c1, rfl, hown1, hb1⟩
  rw [Hll.out] at hown1 ⊢
  have R1 := Lib.hid (Reads.of_own hown1)
  have Hb1 := Lib.hid hb1
  clear hown1 hb1
  go_wp2_with fail
  refine (s_CoverLiterals m R1.out (Nat.le_refl _) (by omega)).mono ?_
  rintro e w2 ⟨rfl, hb2⟩
  have Hb2 := Lib.hid (Hb1.out.trans (hb2.mono Hb1.out.size))
  clear hb2
  go_wp2_with fail
  refine (l_toCubeS hb (hr.below Hb2.out) Hb2.out.size).mono ?_
  rintro e w3 ⟨A3, c3, rfl, hown3, hb3⟩
  rw [Hll.out] at hown3 ⊢
  have R3 := Lib.hid (Reads.of_own hown3)
  have Hb3 := Lib.hid (Hb2.out.trans (hb3.mono Hb2.out.size))
  clear hown3 hb3
  go_wp2_with fail
  refine (i_CoverLiterals m R3.out (Nat.le_refl _) (by omega)).mono ?_
  rintro e w4 ⟨rfl, hb4⟩
  have R4 := Lib.hid ((R3.out.below hb4).more (B' := w4.heap.size) hb4.size)
  have Hb4 := Lib.hid (Hb3.out.trans (hb4.mono Hb3.out.size))
  clear hb4
  go_wp2_with fail
  refine (l_toCubeS hb (hr.below Hb4.out) Hb4.out.size).mono ?_
  rintro e w5 ⟨A5, c5, rfl, hown5, hb5⟩
  rw [Hll.out] at hown5 ⊢
  have R5 := Lib.hid (Reads.of_own hown5)
  have Q5 := Lib.hid ((R4.out.below hb5).more (B' := w5.heap.size) hb5.size)
  have Hb5 := Lib.hid (Hb4.out.trans (hb5.mono Hb4.out.size))
  clear hown5 hb5
  go_wp2_with fail
  refine (l_eqCubeS (by omega) (by omega) Q5.out R5.out (Nat.le_refl _) (Nat.le_refl _)).mono ?_
  rintro e w6 ⟨rfl, hb6⟩
  have Hb6 := Lib.hid (Hb5.out.trans (hb6.mono Hb5.out.size))
  clear hb6
  go_wp2_with fail
  go_ret
  exact ⟨rfl, Hb6.out⟩
 ·have Hsz := Lib.hid (l_szCubeS A n c 1048576 (by omega) hn w)
  rw [if_neg hb] at Hsz
  clear hll hn
  go_enter Try.func6, Try.ntmps6
  go_wp2_with (first | (go_at_call 30; refine Hsz.out.mono ?_; rintro e w' ⟨rfl, rfl⟩))
  go_ret
  exact ⟨rfl, Below.refl _ _⟩
set_option maxRecDepth 100000 in
theorem lifted_FnExactCoverLiterals (os : Os) (started : os.Started) (H : Type) (enc : TypeId × Value → H) :
  ReturnsInHanded {} Try.checked os 6 .any (Rows.fnExactCoverLiteralsSpec.pre6 enc Try.prog Try.f6 Rows.fnExactCoverLiteralsRow.domain false) (Rows.fnExactCoverLiteralsSpec.post enc Try.prog Try.f6 false true false false) := by
 refine lift (F := 6) (fn := Try.f6) (s := Rows.fnExactCoverLiteralsSpec) (conds := Rows.fnExactCoverLiteralsRow.domain) (by kernel_rfl) Try.func6 (by kernel_rfl) rfl (by kernel_rfl) ?_ ?_ os started H enc
  (ChangeSpec.witness6 (enc := enc) (C := Try.checked) false ⟨#[], #[.int .i64 0, .slice none 0 0], []⟩ 8 (by kernel_rfl) (by kernel_rfl) (by kernel_rfl) (by kernel_rfl))
 ·intro H ds hl
  rw [Try.params6] at hl
  match ds, hl with
  | [d0, d1], _ => exact ⟨rfl, rfl, rfl⟩
 ·intro W base args H enc ds p hval hA hlt
  rw [Try.params6] at hA hval
  obtain ⟨v0, vs0, e0, es0, p0, q0, hargs, rfl, rfl, h0, r0⟩ := trodAll_cons hA
  obtain ⟨v1, vs1, e1, es1, p1, q1, rfl, rfl, rfl, h1, r1⟩ := trodAll_cons r0
  obtain ⟨rfl, rfl, rfl⟩ := trodAll_nil r1
  obtain rfl : args = #[v0, v1] := by cases args; simp_all
  obtain ⟨m, rfl, w0⟩ := op_int Try.underlying3 (hval 0 3 v0 rfl rfl) h0
  obtain ⟨A1, n1, c1, l, rfl, m1, w1⟩ := op_cubes Try.underlying46 Try.underlying77 (by kernel_rfl) (by kernel_rfl) (by kernel_rfl) (by kernel_rfl) (hval 1 46 v1 rfl rfl) h1 (fun x hx => hlt x (by simp [hx]))
  exact walk_FnExactCoverLiterals m A1 n1 c1 l m1 W w1
theorem facts_FnExactCoverLiterals : joinedFacts Try.pinned.checked.prog 6 Try.f6 Rows.fnExactCoverLiteralsSpec Rows.fnExactCoverLiteralsRow = true :=
 facts_of (P := Try.prog) mayE liftE makeE rfl rfl (by kernel_rfl) (by kernel_rfl) (by kernel_rfl) (by kernel_rfl) (by kernel_rfl) (by kernel_rfl) (by kernel_rfl) (by kernel_rfl) (by kernel_rfl) (by kernel_rfl) (by kernel_rfl) (by kernel_rfl) (by kernel_rfl) rfl rfl (by kernel_rfl) (by kernel_rfl) (by kernel_rfl) (by kernel_rfl) (by kernel_rfl) (by kernel_rfl) (by kernel_rfl) (by kernel_rfl) (by kernel_rfl) (by kernel_rfl) (by kernel_rfl) rfl rfl (by kernel_rfl) (by kernel_rfl) (by kernel_rfl)
theorem over_FnExactCoverLiterals : Rows.fnExactCoverLiteralsRow.holds Try.pinned (OpenSpec.ofChange Rows.fnExactCoverLiteralsSpec) :=
 OpenClaim.holds_of_wide 6 Try.f6 rfl rfl rfl rfl rfl rfl rfl ⟨rfl, rfl, rfl, rfl, rfl⟩ rfl rfl rfl rfl rfl (by kernel_rfl) Try.func6 facts_FnExactCoverLiterals
  (of_decide_eq_true (by kernel_rfl)) (by unfold Func.isWrapper; first | (rw [if_pos (by decide +kernel)]; kernel_rfl) | (rw [if_neg (by decide +kernel)]; exact ⟨rfl, rfl⟩))
  (fun os started H enc _ => lifted_FnExactCoverLiterals os started H enc)
theorem FnExactCoverLiterals_holds : Rows.FnExactCoverLiteralsSaid := over_FnExactCoverLiterals
end Go.Proofs.Ytbkgjgpoohlieaa
