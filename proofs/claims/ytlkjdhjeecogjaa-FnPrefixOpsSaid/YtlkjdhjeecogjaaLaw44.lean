/- Law of expressions: for every code no proper prefix of a drawn expression and no extension of it is an expression, and the program's OpsOk is the reference's. Conditions: none. -/
import Derived.Test.YtlkjdhjeecogjaaFrame3
import Derived.Test.YtlkjdhjeecogjaaDxo
import Derived.Test.YtlkjdhjeecogjaaGe
namespace Go.Proofs.Ytlkjdhjeecogjaa
open Go.ChangeShapes Go.WideShapes Go.ChangeAt Go.RowKit

set_option maxRecDepth 100000 in
set_option maxHeartbeats 8000000 in
theorem walk_FnPrefixOps (A : Option Addr) (n c : Nat) (l : List UInt8) (w : World) (hr : Reads w w.heap.size 1 A n (bys l)) : Calls Try.prog 6 #[.slice A n c] w fun e w' => e = .returned (.bool true) ∧ Below w.heap.size w w' := by
 by_cases hb : n ≤ 1048576
 rotate_left
 ·go_enter Try.func6, Try.ntmps6
  go_wp2_with (first | (go_at_call 33; go_in))
  go_ret
  exact ⟨rfl, Below.refl _ _⟩
 obtain ⟨i0, hi, hz0, hz1, hz2⟩ := info_parts Try.infOpC
 go_enter Try.func6, Try.ntmps6
 go_wp2_with (first | (go_at_call 33; go_in))
 refine (s_DrawOpsOk hr hb).mono ?_
 rintro e w1 ⟨A1, n1, c1, os, k, rfl, hr1, hn1, hnc, hb1⟩
 have hl1 := Reads.rlen eOp_len (by decide) hr1
 have Hl1 := Lib.hid hl1
 have R1 := Lib.hid hr1
 have Hb1 := Lib.hid hb1
 clear hr hr1 hb1 hl1
 go_wp2_with fail
 refine (s_OpsOk (k : Int) R1.out (Nat.le_refl _) (by omega)).mono ?_
 rintro e w2 ⟨rfl, hb2⟩
 have R2 := Lib.hid (R1.out.below hb2)
 have Hb2 := Lib.hid (Hb1.out.trans (hb2.mono Hb1.out.size))
 have z2 := hb2.size
 clear hb2
 go_wp2_with fail
 refine (i_OpsOk (k : Int) R2.out z2 (by omega)).mono ?_
 rintro e w3 ⟨rfl, hb3⟩
 have R3 := Lib.hid (R2.out.below (hb3.mono z2))
 have Hb3 := Lib.hid (Hb2.out.trans (hb3.mono Hb2.out.size))
 have z3 := hb3.size
 clear hb3
 cases hX : opsB os k with
 | false =>
  clear hX
  go_wp2_with fail
  refine (i_OpsOk (l := [(4, 0, 0), (0, 0, 0)]) (k : Int) (reads_new 74 #[.int .i64 4, .int .i64 0, .int .i64 0, .int .i64 0, .int .i64 0, .int .i64 0] 2 3 rfl) (by simp) (by omega)).mono ?_
  rintro e w9 ⟨rfl, hb9⟩
  rw [ops_not]
  have Hb9 := Lib.hid ((Hb3.out.alloc Hb3.out.size _).trans (hb9.mono (by have := Hb3.out.size; simp; omega)))
  clear hb9
  go_wp2_with fail
  go_ret
  exact ⟨rfl, Hb9.out⟩
 | true =>
  have HX := Lib.hid hX
  have Hb0 := Lib.hid (Below.refl w3.heap.size w3)
  clear hX
  go_wp2_with fail
  go_loopw [6] (fun iv wr => ∃ j : Nat, j ≤ n1 ∧ iv = .int .i64 j ∧ Below w3.heap.size w3 wr) (fun iv _ => n1 - (intOf iv).toNat)
  case atStart => exact ⟨0, Nat.zero_le _, rfl, Hb0.out⟩
  case round =>
   obtain ⟨j, hj, rfl, hb⟩ := hrel
   have Hb := Lib.hid hb
   have zr := hb.size
   clear hb
   by_cases hlt : j < n1
   ·have g1 : (j : Int) < (n1 : Int) := by omega
    have g2 : (j : Int) ≤ (c1 : Int) := by omega
    have g3 : (0 : Int) ≤ (j : Int) := by omega
    go_wp2_with fail
    have RJ := Lib.hid (show Reads wr w1.heap.size 3 A1 j (recs eOp (os.take j)) by rw [recs_take eOp_len]; exact (R3.out.below (Hb.out.mono (by omega))).head hj)
    refine (i_OpsOk (k : Int) RJ.out (by omega) (by omega)).mono ?_
    rintro e w4 ⟨rfl, hb4⟩
    rw [ops_prefix HX.out (show j < os.length by rw [Hl1.out]; exact hlt)]
    have Hb4 := Lib.hid (Hb.out.trans (hb4.mono zr))
    clear hb4
    go_wp2_with fail
    go_roundw
    case rel => exact ⟨j + 1, by omega, by go_num, Hb4.out⟩
    case measure => simp [intOf]; omega
   obtain rfl : j = n1 := by omega
   have g2 : (j : Int) ≤ (j : Int) := Int.le_refl _
   have Hbr := Lib.hid (Hb3.out.trans (Hb.out.mono Hb3.out.size))
   have RE := Lib.hid ((R3.out.below (Hb.out.mono (by omega))).alloc (by omega) (.cells #[] 74))
   have HE := Lib.hid (World.ownsRow_lit (base := wr.heap.size) (size := 3) (e := 74) wr #[] 0 (Nat.le_refl _) (by unfold maxLen; omega) rfl)
   go_wp2_with (at_builtin; refine wpList_append_any _ rfl _ _ 69 rfl (wr.heap.size) 74 i0 (.agg #[.int .i64 0, .int .i64 0, .int .i64 0]) 3 24 Try.underlying69 hi hz0 hz1 hz2 rfl (by decide) _ _ _ rfl HE.out _ _ j c1 (recs eOp os) rfl RE.out (recs_one _) (by unfold maxLen; omega) (by omega) (by simp) ?_; intro v5 w5 hown5 hgrow5 hblk5; refine stopX ?_)
   refine stopped ?_
   have z5 := hgrow5.size
   simp at z5
   obtain ⟨A5, c5, rfl, _, _, _⟩ := own_form hown5
   rw [Nat.zero_add] at hown5 ⊢
   have Ho5 := Lib.hid (show w5.ownsRow wr.heap.size 74 3 (.slice A5 j c5) j (recs eOp os) from hown5)
   have Hb5 := Lib.hid ((Hbr.out.alloc Hbr.out.size _).trans (below_of_grown hgrow5 (by have := Hbr.out.size; simp; omega) (fun b hb => by have := (HE.out.lt b hb).1; have := Hbr.out.size; omega)))
   clear hown5 hgrow5 hblk5
   have z5' : wr.heap.size ≤ w5.heap.size := by omega
   go_wp2_with (at_builtin; refine wpList_append_any _ rfl _ _ 69 rfl (wr.heap.size) 74 i0 (.agg #[.int .i64 0, .int .i64 0, .int .i64 0]) 3 24 Try.underlying69 hi hz0 hz1 hz2 rfl (by decide) _ _ _ rfl (Ho5.out.alloc _) _ _ 1 1 _ rfl (reads_new _ _ 1 3 rfl) (by intro u hu; simp at hu; first | (subst hu; rfl) | (rcases hu with rfl | rfl <;> rfl) | (rcases hu with rfl | rfl | rfl <;> rfl)) (by unfold maxLen; omega) (by omega) (by (try simp) <;> (try omega)) ?_; intro v6 w6 hown6 hgrow6 hblk6)
   obtain ⟨A6, c6, rfl, _, _, _⟩ := own_form hown6
   have HR := Lib.hid (show Reads w6 w6.heap.size 3 A6 (j + 1) (recs eOp (os ++ [(0, 0, 0)])) by rw [recs_app]; exact Reads.of_own hown6)
   have Hb6 := Lib.hid ((Hb5.out.alloc Hb5.out.size _).trans (below_of_grown hgrow6 (by have := Hb5.out.size; simp; omega) (fun b hb => by have := (Ho5.out.lt b hb).1; have := Hbr.out.size; omega)))
   clear hown6 hgrow6 hblk6
   go_wp2_with fail
   refine (i_OpsOk (k : Int) HR.out (Nat.le_refl _) (by omega)).mono ?_
   rintro e w7 ⟨rfl, hb7⟩
   rw [ops_more HX.out]
   have Hb7 := Lib.hid (Hb6.out.trans (hb7.mono Hb6.out.size))
   clear hb7
   go_wp2_with fail
   refine (i_OpsOk (l := [(4, 0, 0), (0, 0, 0)]) (k : Int) (reads_new 74 #[.int .i64 4, .int .i64 0, .int .i64 0, .int .i64 0, .int .i64 0, .int .i64 0] 2 3 rfl) (by simp) (by omega)).mono ?_
   rintro e w9 ⟨rfl, hb9⟩
   rw [ops_not]
   have Hb9 := Lib.hid ((Hb7.out.alloc Hb7.out.size _).trans (hb9.mono (by have := Hb7.out.size; simp; omega)))
   clear hb9
   go_wp2_with fail
   go_ret
   exact ⟨rfl, Hb9.out⟩
set_option maxRecDepth 100000 in
theorem lifted_FnPrefixOps (os : Os) (started : os.Started) (H : Type) (enc : TypeId × Value → H) :
  ReturnsInHanded {} Try.checked os 6 .any (Rows.fnPrefixOpsSpec.pre6 enc Try.prog Try.f6 Rows.fnPrefixOpsRow.domain false) (Rows.fnPrefixOpsSpec.post enc Try.prog Try.f6 false true false false) := by
 refine lift (F := 6) (fn := Try.f6) (s := Rows.fnPrefixOpsSpec) (conds := Rows.fnPrefixOpsRow.domain) (by kernel_rfl) Try.func6 (by kernel_rfl) rfl (by kernel_rfl) ?_ ?_ os started H enc
  (ChangeSpec.witness6 (enc := enc) (C := Try.checked) false ⟨#[], #[.slice none 0 0], []⟩ 8 (by kernel_rfl) (by kernel_rfl) (by kernel_rfl) (by kernel_rfl))
 ·intro H ds hl
  rw [Try.params6] at hl
  match ds, hl with
  | [d0], _ => exact ⟨rfl, rfl, rfl⟩
 ·intro W base args H enc ds p hval hA hlt
  rw [Try.params6] at hA hval
  obtain ⟨v0, vs0, e0, es0, p0, q0, hargs, rfl, rfl, h0, r0⟩ := trodAll_cons hA
  obtain ⟨rfl, rfl, rfl⟩ := trodAll_nil r0
  obtain rfl : args = #[v0] := by cases args; simp_all
  obtain ⟨A0, n0, c0, l, rfl, w0⟩ := op_bytes Try.underlying67 Try.underlying5 (by kernel_rfl) (hval 0 67 v0 rfl rfl) h0 (fun x hx => hlt x (by simp [hx]))
  exact walk_FnPrefixOps A0 n0 c0 l W w0
theorem facts_FnPrefixOps : joinedFacts Try.pinned.checked.prog 6 Try.f6 Rows.fnPrefixOpsSpec Rows.fnPrefixOpsRow = true :=
 facts_of (P := Try.prog) mayE liftE makeE rfl rfl (by kernel_rfl) (by kernel_rfl) (by kernel_rfl) (by kernel_rfl) (by kernel_rfl) (by kernel_rfl) (by kernel_rfl) (by kernel_rfl) (by kernel_rfl) (by kernel_rfl) (by kernel_rfl) (by kernel_rfl) (by kernel_rfl) rfl rfl (by kernel_rfl) (by kernel_rfl) (by kernel_rfl) (by kernel_rfl) (by kernel_rfl) (by kernel_rfl) (by kernel_rfl) (by kernel_rfl) (by kernel_rfl) (by kernel_rfl) (by kernel_rfl) rfl rfl (by kernel_rfl) (by kernel_rfl) (by kernel_rfl)
theorem over_FnPrefixOps : Rows.fnPrefixOpsRow.holds Try.pinned (OpenSpec.ofChange Rows.fnPrefixOpsSpec) :=
 OpenClaim.holds_of_wide 6 Try.f6 rfl rfl rfl rfl rfl rfl rfl ⟨rfl, rfl, rfl, rfl, rfl⟩ rfl rfl rfl rfl rfl (by kernel_rfl) Try.func6 facts_FnPrefixOps
  (of_decide_eq_true (by kernel_rfl)) (by unfold Func.isWrapper; first | (rw [if_pos (by decide +kernel)]; kernel_rfl) | (rw [if_neg (by decide +kernel)]; exact ⟨rfl, rfl⟩))
  (fun os started H enc _ => lifted_FnPrefixOps os started H enc)
theorem FnPrefixOps_holds : Rows.FnPrefixOpsSaid := over_FnPrefixOps
end Go.Proofs.Ytlkjdhjeecogjaa
