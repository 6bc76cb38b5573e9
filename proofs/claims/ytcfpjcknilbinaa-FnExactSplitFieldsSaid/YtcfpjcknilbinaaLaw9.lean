/- Law of fields: for every input the program's SplitFields is the reference's, and its result lies in memory of its own. Conditions: none. -/
import Derived.Test.YtcfpjcknilbinaaFrame2
import Derived.Test.YtcfpjcknilbinaaSplit
namespace Go.Proofs.Ytcfpjcknilbinaa
open Go.ChangeShapes Go.WideShapes Go.ChangeAt Go.RowKit

set_option maxRecDepth 100000 in
set_option maxHeartbeats 4000000 in
theorem walk_FnExactSplitFields (s : ByteArray) (hs : s.size ≤ maxLen) (w : World) : Calls Try.prog 21 #[.string s] w fun e w' => e = .returned (.bool true) ∧ Below w.heap.size w w' := by
  have hs' := hs
  unfold maxLen at hs'
  have hlen := spR_len s
  by_cases hb : s.size ≤ 1048576
  · go_enter Try.func21, Try.ntmps21
    go_wp2_with fail
    refine (s_SplitFields s hs _).mono ?_
    rintro e w2 ⟨A1, c1, rfl, hown1, hb2⟩
    have z2 := hb2.size
    have H1 := Lib.hid hown1
    clear hown1
    go_wp2_with fail
    refine (i_SplitFields s hs _).mono ?_
    rintro e w4 ⟨A2, c2, rfl, hown2, hb4⟩
    have z4 := hb4.size
    have H2 := Lib.hid hown2
    have R1 := Lib.hid ((Reads.of_own H1.out).below hb4)
    clear hown2
    go_wp2_with fail
    refine (l_eqStringS (by omega) (by omega) (Reads.of_own H2.out) R1.out (Nat.le_refl _) hb4.size).mono ?_
    rintro e w5 ⟨rfl, hb5⟩
    have z5 := hb5.size
    have H2' := Lib.hid (own_below H2.out hb5 (Nat.le_refl _))
    have R1' := Lib.hid (R1.out.below (hb5.mono hb4.size))
    have z5' : w2.heap.size ≤ w5.heap.size := by omega
    go_wp2_with fail
    refine (l_markStringS 1 (by omega) (by omega) (by omega) H2'.out).mono ?_
    rintro e w6 ⟨rfl, hown6, hg6⟩
    have hb6 := below_of_grown hg6 z5' (fun g hg => (H2'.out.lt g hg).1)
    have H6 := Lib.hid hown6
    have R6 := Lib.hid (R1'.out.below hb6)
    have z6 := hb6.size
    clear hown6 hg6
    go_wp2_with fail
    refine (l_heldStringS 1 (by omega) (by omega) (by omega) (Reads.of_own H6.out) (Nat.le_refl _)).mono ?_
    rintro e w7 ⟨rfl, hb7⟩
    have z7 := hb7.size
    have z6' : w2.heap.size ≤ w6.heap.size := by omega
    have z7' : w2.heap.size ≤ w7.heap.size := by omega
    have R7 := Lib.hid (R6.out.below (hb7.mono z6'))
    have M7 := Lib.hid ((Reads.of_own H6.out).below hb7)
    have t1 : ((1 : Int) + ((spR s).1.length : Int) < 0) = False := by simp; omega
    go_wp2_with fail
    refine (i_SplitFields s hs _).mono ?_
    rintro e w8 ⟨A3, c3, rfl, hown8, hb8⟩
    have H8 := Lib.hid hown8
    have R8 := Lib.hid (R7.out.below (hb8.mono z7'))
    have M8 := Lib.hid (M7.out.below (hb8.mono hb7.size))
    clear hown8
    have z8 := hb8.size
    go_wp2_with fail
    refine (l_eqStringS (by omega) (by omega) (Reads.of_own H8.out) R8.out (Nat.le_refl _) (by omega)).mono ?_
    rintro e w9 ⟨rfl, hb9⟩
    have M9 := Lib.hid (M8.out.below (hb9.mono (by omega)))
    have z9 := hb9.size
    go_wp2_with fail
    refine (l_heldStringS 1 (by omega) (by omega) (by omega) M9.out (by omega)).mono ?_
    rintro e w10 ⟨rfl, hb10⟩
    go_wp2_with fail
    go_ret
    refine ⟨rfl, ?_⟩
    have e1 : Below w.heap.size w w5 := (hb2.trans (hb4.mono z2)).trans (hb5.mono (by omega))
    have e2 : Below w.heap.size w w8 := ((e1.trans (hb6.mono z2)).trans (hb7.mono (by omega))).trans (hb8.mono (by omega))
    exact (e2.trans (hb9.mono (by omega))).trans (hb10.mono (by omega))
  · go_enter Try.func21, Try.ntmps21
    go_wp2_with fail
    go_ret
    exact ⟨rfl, Below.refl _ _⟩
set_option maxRecDepth 100000 in
theorem lifted_FnExactSplitFields (os : Os) (started : os.Started) (H : Type) (enc : TypeId × Value → H) :
    ReturnsInHanded {} Try.checked os 21 .any (Rows.fnExactSplitFieldsSpec.pre6 enc Try.prog Try.f21 Rows.fnExactSplitFieldsRow.domain false) (Rows.fnExactSplitFieldsSpec.post enc Try.prog Try.f21 false true false false) := by
  refine lift (F := 21) (fn := Try.f21) (s := Rows.fnExactSplitFieldsSpec) (conds := Rows.fnExactSplitFieldsRow.domain) (by kernel_rfl) Try.func21 (by kernel_rfl) rfl (by kernel_rfl) ?_ ?_ os started H enc
    (ChangeSpec.witness6 (enc := enc) (C := Try.checked) false ⟨#[], #[.string ⟨#[]⟩], []⟩ 8 (by kernel_rfl) (by kernel_rfl) (by kernel_rfl) (by kernel_rfl))
  · intro H ds hl
    rw [Try.params21] at hl
    match ds, hl with
    | [d0], _ => exact ⟨rfl, rfl, rfl⟩
  · intro W base args H enc ds p hval hA hlt
    rw [Try.params21] at hA hval
    obtain ⟨v0, vs0, e0, es0, p0, q0, hargs, rfl, rfl, h0, r0⟩ := trodAll_cons hA
    obtain ⟨rfl, rfl, rfl⟩ := trodAll_nil r0
    obtain rfl : args = #[v0] := by cases args; simp_all
    obtain ⟨s, rfl, w0⟩ := op_string Try.underlying9 (hval 0 9 v0 rfl rfl) h0
    exact walk_FnExactSplitFields s w0 W
theorem facts_FnExactSplitFields : joinedFacts Try.pinned.checked.prog 21 Try.f21 Rows.fnExactSplitFieldsSpec Rows.fnExactSplitFieldsRow = true :=
  facts_of (P := Try.prog) mayE liftE makeE rfl rfl (by kernel_rfl) (by kernel_rfl) (by kernel_rfl) (by kernel_rfl) (by kernel_rfl) (by kernel_rfl) (by kernel_rfl) (by kernel_rfl) (by kernel_rfl) (by kernel_rfl) (by kernel_rfl) (by kernel_rfl) (by kernel_rfl) rfl rfl (by kernel_rfl) (by kernel_rfl) (by kernel_rfl) (by kernel_rfl) (by kernel_rfl) (by kernel_rfl) (by kernel_rfl) (by kernel_rfl) (by kernel_rfl) (by kernel_rfl) (by kernel_rfl) rfl rfl (by kernel_rfl) (by kernel_rfl) (by kernel_rfl)
theorem over_FnExactSplitFields : Rows.fnExactSplitFieldsRow.holds Try.pinned (OpenSpec.ofChange Rows.fnExactSplitFieldsSpec) :=
  OpenClaim.holds_of_wide 21 Try.f21 rfl rfl rfl rfl rfl rfl rfl ⟨rfl, rfl, rfl, rfl, rfl⟩ rfl rfl rfl rfl rfl (by kernel_rfl) Try.func21 facts_FnExactSplitFields
    (of_decide_eq_true (by kernel_rfl)) (by unfold Func.isWrapper; first | (rw [if_pos (by decide +kernel)]; kernel_rfl) | (rw [if_neg (by decide +kernel)]; exact ⟨rfl, rfl⟩))
    (fun os started H enc _ => lifted_FnExactSplitFields os started H enc)
theorem FnExactSplitFields_holds : Rows.FnExactSplitFieldsSaid := over_FnExactSplitFields
end Go.Proofs.Ytcfpjcknilbinaa
