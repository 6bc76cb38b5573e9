/- Laws of numbers' texts: for every input the program's FormatInt and ParseUint are the reference's. Conditions: none. -/
import Derived.Test.YtcfpjcknilbinaaFrame2
import Derived.Test.YtcfpjcknilbinaaParse
namespace Go.Proofs.Ytcfpjcknilbinaa
open Go.ChangeShapes Go.WideShapes Go.ChangeAt Go.RowKit

theorem wf_i64 {x : Int} (h : (Lit.int .i64 x).wf = true) : i64B x := by
  simp [Lit.wf] at h
  have hm : IntKind.i64.min = -9223372036854775808 := by decide
  rw [hm] at h
  exact h
set_option maxHeartbeats 1000000 in
theorem walk_FnExactFormatInt (n : Int) (w : World) (hw : (Lit.int .i64 n).wf = true) : Calls Try.prog 13 #[.int .i64 n] w fun e w' => e = .returned (.bool true) ∧ Below w.heap.size w w' := by
  have Hn := Lib.hid (wf_i64 hw)
  go_enter Try.func13, Try.ntmps13
  go_wp2_with fail
  refine (s_FormatInt _ Hn.out _).mono ?_
  rintro e w1 ⟨rfl, hb1⟩
  go_wp2_with fail
  refine (i_FormatInt _ Hn.out _).mono ?_
  rintro e w2 ⟨rfl, hb2⟩
  go_wp2_with fail
  go_ret
  exact ⟨rfl, hb1.trans (hb2.mono hb1.size)⟩
set_option maxRecDepth 100000 in
theorem lifted_FnExactFormatInt (os : Os) (started : os.Started) (H : Type) (enc : TypeId × Value → H) :
    ReturnsInHanded {} Try.checked os 13 .any (Rows.fnExactFormatIntSpec.pre6 enc Try.prog Try.f13 Rows.fnExactFormatIntRow.domain false) (Rows.fnExactFormatIntSpec.post enc Try.prog Try.f13 false true false false) := by
  refine lift (F := 13) (fn := Try.f13) (s := Rows.fnExactFormatIntSpec) (conds := Rows.fnExactFormatIntRow.domain) (by kernel_rfl) Try.func13 (by kernel_rfl) rfl (by kernel_rfl) ?_ ?_ os started H enc
    (ChangeSpec.witness6 (enc := enc) (C := Try.checked) false ⟨#[], #[.int .i64 0], []⟩ 8 (by kernel_rfl) (by kernel_rfl) (by kernel_rfl) (by kernel_rfl))
  · intro H ds hl
    rw [Try.params13] at hl
    match ds, hl with
    | [d0], _ => exact ⟨rfl, rfl, rfl⟩
  · intro W base args H enc ds p hval hA hlt
    rw [Try.params13] at hA hval
    obtain ⟨v0, vs0, e0, es0, p0, q0, hargs, rfl, rfl, h0, r0⟩ := trodAll_cons hA
    obtain ⟨rfl, rfl, rfl⟩ := trodAll_nil r0
    obtain rfl : args = #[v0] := by cases args; simp_all
    obtain ⟨n, rfl, w0⟩ := op_int Try.underlying3 (hval 0 3 v0 rfl rfl) h0
    exact walk_FnExactFormatInt n W w0
theorem facts_FnExactFormatInt : joinedFacts Try.pinned.checked.prog 13 Try.f13 Rows.fnExactFormatIntSpec Rows.fnExactFormatIntRow = true :=
  facts_of (P := Try.prog) mayE liftE makeE rfl rfl (by kernel_rfl) (by kernel_rfl) (by kernel_rfl) (by kernel_rfl) (by kernel_rfl) (by kernel_rfl) (by kernel_rfl) (by kernel_rfl) (by kernel_rfl) (by kernel_rfl) (by kernel_rfl) (by kernel_rfl) (by kernel_rfl) rfl rfl (by kernel_rfl) (by kernel_rfl) (by kernel_rfl) (by kernel_rfl) (by kernel_rfl) (by kernel_rfl) (by kernel_rfl) (by kernel_rfl) (by kernel_rfl) (by kernel_rfl) (by kernel_rfl) rfl rfl (by kernel_rfl) (by kernel_rfl) (by kernel_rfl)
theorem over_FnExactFormatInt : Rows.fnExactFormatIntRow.holds Try.pinned (OpenSpec.ofChange Rows.fnExactFormatIntSpec) :=
  OpenClaim.holds_of_wide 13 Try.f13 rfl rfl rfl rfl rfl rfl rfl ⟨rfl, rfl, rfl, rfl, rfl⟩ rfl rfl rfl rfl rfl (by kernel_rfl) Try.func13 facts_FnExactFormatInt
    (of_decide_eq_true (by kernel_rfl)) (by unfold Func.isWrapper; first | (rw [if_pos (by decide +kernel)]; kernel_rfl) | (rw [if_neg (by decide +kernel)]; exact ⟨rfl, rfl⟩))
    (fun os started H enc _ => lifted_FnExactFormatInt os started H enc)
theorem FnExactFormatInt_holds : Rows.FnExactFormatIntSaid := over_FnExactFormatInt

set_option maxHeartbeats 1000000 in
theorem walk_FnExactParseUint (s : ByteArray) (hs : s.size ≤ maxLen) (w : World) : Calls Try.prog 16 #[.string s] w fun e w' => e = .returned (.bool true) ∧ Below w.heap.size w w' := by
  have hs' := hs
  unfold maxLen at hs'
  by_cases hb : s.size ≤ 1048576
  · cases hl : Tx.pu s.data.toList with
    | none =>
      have Hl := Lib.hid (puV_none hl)
      clear hl
      go_enter Try.func16, Try.ntmps16
      go_wp2_with fail
      refine (s_ParseUint s hs _).mono ?_
      rintro e w1 ⟨he, hb1⟩
      rw [Hl.out] at he
      subst he
      go_wp2_with fail
      refine (i_ParseUint s hs _).mono ?_
      rintro e w2 ⟨he, hb2⟩
      rw [Hl.out] at he
      subst he
      go_wp2_with fail
      go_ret
      exact ⟨rfl, hb1.trans (hb2.mono hb1.size)⟩
    | some n =>
      have Hl := Lib.hid (puV_some hl)
      clear hl
      go_enter Try.func16, Try.ntmps16
      go_wp2_with fail
      refine (s_ParseUint s hs _).mono ?_
      rintro e w1 ⟨he, hb1⟩
      rw [Hl.out] at he
      subst he
      go_wp2_with fail
      refine (i_ParseUint s hs _).mono ?_
      rintro e w2 ⟨he, hb2⟩
      rw [Hl.out] at he
      subst he
      go_wp2_with fail
      go_ret
      exact ⟨rfl, hb1.trans (hb2.mono hb1.size)⟩
  · go_enter Try.func16, Try.ntmps16
    go_wp2_with fail
    go_ret
    exact ⟨rfl, Below.refl _ _⟩
set_option maxRecDepth 100000 in
theorem lifted_FnExactParseUint (os : Os) (started : os.Started) (H : Type) (enc : TypeId × Value → H) :
    ReturnsInHanded {} Try.checked os 16 .any (Rows.fnExactParseUintSpec.pre6 enc Try.prog Try.f16 Rows.fnExactParseUintRow.domain false) (Rows.fnExactParseUintSpec.post enc Try.prog Try.f16 false true false false) := by
  refine lift (F := 16) (fn := Try.f16) (s := Rows.fnExactParseUintSpec) (conds := Rows.fnExactParseUintRow.domain) (by kernel_rfl) Try.func16 (by kernel_rfl) rfl (by kernel_rfl) ?_ ?_ os started H enc
    (ChangeSpec.witness6 (enc := enc) (C := Try.checked) false ⟨#[], #[.string ⟨#[]⟩], []⟩ 8 (by kernel_rfl) (by kernel_rfl) (by kernel_rfl) (by kernel_rfl))
  · intro H ds hl
    rw [Try.params16] at hl
    match ds, hl with
    | [d0], _ => exact ⟨rfl, rfl, rfl⟩
  · intro W base args H enc ds p hval hA hlt
    rw [Try.params16] at hA hval
    obtain ⟨v0, vs0, e0, es0, p0, q0, hargs, rfl, rfl, h0, r0⟩ := trodAll_cons hA
    obtain ⟨rfl, rfl, rfl⟩ := trodAll_nil r0
    obtain rfl : args = #[v0] := by cases args; simp_all
    obtain ⟨s, rfl, w0⟩ := op_string Try.underlying9 (hval 0 9 v0 rfl rfl) h0
    exact walk_FnExactParseUint s w0 W
theorem facts_FnExactParseUint : joinedFacts Try.pinned.checked.prog 16 Try.f16 Rows.fnExactParseUintSpec Rows.fnExactParseUintRow = true :=
  facts_of (P := Try.prog) mayE liftE makeE rfl rfl (by kernel_rfl) (by kernel_rfl) (by kernel_rfl) (by kernel_rfl) (by kernel_rfl) (by kernel_rfl) (by kernel_rfl) (by kernel_rfl) (by kernel_rfl) (by kernel_rfl) (by kernel_rfl) (by kernel_rfl) (by kernel_rfl) rfl rfl (by kernel_rfl) (by kernel_rfl) (by kernel_rfl) (by kernel_rfl) (by kernel_rfl) (by kernel_rfl) (by kernel_rfl) (by kernel_rfl) (by kernel_rfl) (by kernel_rfl) (by kernel_rfl) rfl rfl (by kernel_rfl) (by kernel_rfl) (by kernel_rfl)
theorem over_FnExactParseUint : Rows.fnExactParseUintRow.holds Try.pinned (OpenSpec.ofChange Rows.fnExactParseUintSpec) :=
  OpenClaim.holds_of_wide 16 Try.f16 rfl rfl rfl rfl rfl rfl rfl ⟨rfl, rfl, rfl, rfl, rfl⟩ rfl rfl rfl rfl rfl (by kernel_rfl) Try.func16 facts_FnExactParseUint
    (of_decide_eq_true (by kernel_rfl)) (by unfold Func.isWrapper; first | (rw [if_pos (by decide +kernel)]; kernel_rfl) | (rw [if_neg (by decide +kernel)]; exact ⟨rfl, rfl⟩))
    (fun os started H enc _ => lifted_FnExactParseUint os started H enc)
theorem FnExactParseUint_holds : Rows.FnExactParseUintSaid := over_FnExactParseUint
end Go.Proofs.Ytcfpjcknilbinaa
