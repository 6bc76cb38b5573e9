/- Laws of hexadecimal texts: for every input the program's EncodeHex and DecodeHex are the reference's. Conditions: none. -/
import Derived.Test.YtcfpjcknilbinaaFrame2
import Derived.Test.YtcfpjcknilbinaaHexD
namespace Go.Proofs.Ytcfpjcknilbinaa
open Go.ChangeShapes Go.WideShapes Go.ChangeAt Go.RowKit

set_option maxHeartbeats 1000000 in
theorem walk_FnExactEncodeHex (s : ByteArray) (hs : s.size ≤ maxLen) (w : World) : Calls Try.prog 9 #[.string s] w fun e w' => e = .returned (.bool true) ∧ Below w.heap.size w w' := by
  have hs' := hs
  unfold maxLen at hs'
  by_cases hb : s.size ≤ 1048576
  · by_cases hl : s.size ≤ 20000
    · go_enter Try.func9, Try.ntmps9
      go_wp2_with fail
      refine (s_EncodeHex s hs _).mono ?_
      rintro e w1 ⟨he, hb1⟩
      rw [if_pos hl] at he
      subst he
      go_wp2_with fail
      refine (i_EncodeHex s hs _).mono ?_
      rintro e w2 ⟨he, hb2⟩
      rw [if_pos hl] at he
      subst he
      go_wp2_with fail
      go_ret
      exact ⟨rfl, hb1.trans (hb2.mono hb1.size)⟩
    · go_enter Try.func9, Try.ntmps9
      go_wp2_with fail
      refine (s_EncodeHex s hs _).mono ?_
      rintro e w1 ⟨he, hb1⟩
      rw [if_neg hl] at he
      subst he
      go_wp2_with fail
      refine (i_EncodeHex s hs _).mono ?_
      rintro e w2 ⟨he, hb2⟩
      rw [if_neg hl] at he
      subst he
      go_wp2_with fail
      go_ret
      exact ⟨rfl, hb1.trans (hb2.mono hb1.size)⟩
  · go_enter Try.func9, Try.ntmps9
    go_wp2_with fail
    go_ret
    exact ⟨rfl, (by repeat (first | with_reducible exact Below.refl _ _ | with_reducible assumption | with_reducible refine below_drewN ?_ _ | with_reducible refine Below.drew ?_ | ((with_reducible refine Below.alloc ?_ ?_ _); rotate_left; (((try simp) <;> (try omega)) <;> done)) | ((with_reducible refine Below.setCell ?_ ?_ _); rotate_left; (((try simp) <;> (try omega)) <;> done)) | ((with_reducible refine Below.trans ?_ (Below.mono (by with_reducible assumption) ?_)); rotate_left; (((try simp) <;> (try omega)) <;> done))))⟩
set_option maxRecDepth 100000 in
theorem lifted_FnExactEncodeHex (os : Os) (started : os.Started) (H : Type) (enc : TypeId × Value → H) :
    ReturnsInHanded {} Try.checked os 9 .any (Rows.fnExactEncodeHexSpec.pre6 enc Try.prog Try.f9 Rows.fnExactEncodeHexRow.domain false) (Rows.fnExactEncodeHexSpec.post enc Try.prog Try.f9 false true false false) := by
  refine lift (F := 9) (fn := Try.f9) (s := Rows.fnExactEncodeHexSpec) (conds := Rows.fnExactEncodeHexRow.domain) (by kernel_rfl) Try.func9 (by kernel_rfl) rfl (by kernel_rfl) ?_ ?_ os started H enc
    (ChangeSpec.witness6 (enc := enc) (C := Try.checked) false ⟨#[], #[.string ⟨#[]⟩], []⟩ 8 (by kernel_rfl) (by kernel_rfl) (by kernel_rfl) (by kernel_rfl))
  · intro H ds hl
    rw [Try.params9] at hl
    match ds, hl with
    | [d0], _ => exact ⟨rfl, rfl, rfl⟩
  · intro W base args H enc ds p hval hA hlt
    rw [Try.params9] at hA hval
    obtain ⟨v0, vs0, e0, es0, p0, q0, hargs, rfl, rfl, h0, r0⟩ := trodAll_cons hA
    obtain ⟨rfl, rfl, rfl⟩ := trodAll_nil r0
    obtain rfl : args = #[v0] := by cases args; simp_all
    obtain ⟨s, rfl, w0⟩ := op_string Try.underlying9 (hval 0 9 v0 rfl rfl) h0
    exact walk_FnExactEncodeHex s w0 W
theorem facts_FnExactEncodeHex : joinedFacts Try.pinned.checked.prog 9 Try.f9 Rows.fnExactEncodeHexSpec Rows.fnExactEncodeHexRow = true :=
  facts_of (P := Try.prog) mayE liftE makeE rfl rfl (by kernel_rfl) (by kernel_rfl) (by kernel_rfl) (by kernel_rfl) (by kernel_rfl) (by kernel_rfl) (by kernel_rfl) (by kernel_rfl) (by kernel_rfl) (by kernel_rfl) (by kernel_rfl) (by kernel_rfl) (by kernel_rfl) rfl rfl (by kernel_rfl) (by kernel_rfl) (by kernel_rfl) (by kernel_rfl) (by kernel_rfl) (by kernel_rfl) (by kernel_rfl) (by kernel_rfl) (by kernel_rfl) (by kernel_rfl) (by kernel_rfl) rfl rfl (by kernel_rfl) (by kernel_rfl) (by kernel_rfl)
theorem over_FnExactEncodeHex : Rows.fnExactEncodeHexRow.holds Try.pinned (OpenSpec.ofChange Rows.fnExactEncodeHexSpec) :=
  OpenClaim.holds_of_wide 9 Try.f9 rfl rfl rfl rfl rfl rfl rfl ⟨rfl, rfl, rfl, rfl, rfl⟩ rfl rfl rfl rfl rfl (by kernel_rfl) Try.func9 facts_FnExactEncodeHex
    (of_decide_eq_true (by kernel_rfl)) (by unfold Func.isWrapper; first | (rw [if_pos (by decide +kernel)]; kernel_rfl) | (rw [if_neg (by decide +kernel)]; exact ⟨rfl, rfl⟩))
    (fun os started H enc _ => lifted_FnExactEncodeHex os started H enc)
theorem FnExactEncodeHex_holds : Rows.FnExactEncodeHexSaid := over_FnExactEncodeHex

set_option maxHeartbeats 1000000 in
theorem walk_FnExactDecodeHex (s : ByteArray) (hs : s.size ≤ maxLen) (w : World) : Calls Try.prog 14 #[.string s] w fun e w' => e = .returned (.bool true) ∧ Below w.heap.size w w' := by
  have hs' := hs
  unfold maxLen at hs'
  by_cases hb : s.size ≤ 1048576
  · cases hl : decB s
    all_goals
      have Hl := Lib.hid hl
      clear hl
      go_enter Try.func14, Try.ntmps14
      go_wp2_with fail
      refine (s_DecodeHex s hs _).mono ?_
      rintro e w1 ⟨he, hb1⟩
      rw [Hl.out] at he
      subst he
      go_wp2_with fail
      refine (i_DecodeHex s hs _).mono ?_
      rintro e w2 ⟨he, hb2⟩
      rw [Hl.out] at he
      subst he
      go_wp2_with fail
      go_ret
      exact ⟨rfl, hb1.trans (hb2.mono hb1.size)⟩
  · go_enter Try.func14, Try.ntmps14
    go_wp2_with fail
    go_ret
    exact ⟨rfl, (by repeat (first | with_reducible exact Below.refl _ _ | with_reducible assumption | with_reducible refine below_drewN ?_ _ | with_reducible refine Below.drew ?_ | ((with_reducible refine Below.alloc ?_ ?_ _); rotate_left; (((try simp) <;> (try omega)) <;> done)) | ((with_reducible refine Below.setCell ?_ ?_ _); rotate_left; (((try simp) <;> (try omega)) <;> done)) | ((with_reducible refine Below.trans ?_ (Below.mono (by with_reducible assumption) ?_)); rotate_left; (((try simp) <;> (try omega)) <;> done))))⟩
set_option maxRecDepth 100000 in
theorem lifted_FnExactDecodeHex (os : Os) (started : os.Started) (H : Type) (enc : TypeId × Value → H) :
    ReturnsInHanded {} Try.checked os 14 .any (Rows.fnExactDecodeHexSpec.pre6 enc Try.prog Try.f14 Rows.fnExactDecodeHexRow.domain false) (Rows.fnExactDecodeHexSpec.post enc Try.prog Try.f14 false true false false) := by
  refine lift (F := 14) (fn := Try.f14) (s := Rows.fnExactDecodeHexSpec) (conds := Rows.fnExactDecodeHexRow.domain) (by kernel_rfl) Try.func14 (by kernel_rfl) rfl (by kernel_rfl) ?_ ?_ os started H enc
    (ChangeSpec.witness6 (enc := enc) (C := Try.checked) false ⟨#[], #[.string ⟨#[]⟩], []⟩ 8 (by kernel_rfl) (by kernel_rfl) (by kernel_rfl) (by kernel_rfl))
  · intro H ds hl
    rw [Try.params14] at hl
    match ds, hl with
    | [d0], _ => exact ⟨rfl, rfl, rfl⟩
  · intro W base args H enc ds p hval hA hlt
    rw [Try.params14] at hA hval
    obtain ⟨v0, vs0, e0, es0, p0, q0, hargs, rfl, rfl, h0, r0⟩ := trodAll_cons hA
    obtain ⟨rfl, rfl, rfl⟩ := trodAll_nil r0
    obtain rfl : args = #[v0] := by cases args; simp_all
    obtain ⟨s, rfl, w0⟩ := op_string Try.underlying9 (hval 0 9 v0 rfl rfl) h0
    exact walk_FnExactDecodeHex s w0 W
theorem facts_FnExactDecodeHex : joinedFacts Try.pinned.checked.prog 14 Try.f14 Rows.fnExactDecodeHexSpec Rows.fnExactDecodeHexRow = true :=
  facts_of (P := Try.prog) mayE liftE makeE rfl rfl (by kernel_rfl) (by kernel_rfl) (by kernel_rfl) (by kernel_rfl) (by kernel_rfl) (by kernel_rfl) (by kernel_rfl) (by kernel_rfl) (by kernel_rfl) (by kernel_rfl) (by kernel_rfl) (by kernel_rfl) (by kernel_rfl) rfl rfl (by kernel_rfl) (by kernel_rfl) (by kernel_rfl) (by kernel_rfl) (by kernel_rfl) (by kernel_rfl) (by kernel_rfl) (by kernel_rfl) (by kernel_rfl) (by kernel_rfl) (by kernel_rfl) rfl rfl (by kernel_rfl) (by kernel_rfl) (by kernel_rfl)
theorem over_FnExactDecodeHex : Rows.fnExactDecodeHexRow.holds Try.pinned (OpenSpec.ofChange Rows.fnExactDecodeHexSpec) :=
  OpenClaim.holds_of_wide 14 Try.f14 rfl rfl rfl rfl rfl rfl rfl ⟨rfl, rfl, rfl, rfl, rfl⟩ rfl rfl rfl rfl rfl (by kernel_rfl) Try.func14 facts_FnExactDecodeHex
    (of_decide_eq_true (by kernel_rfl)) (by unfold Func.isWrapper; first | (rw [if_pos (by decide +kernel)]; kernel_rfl) | (rw [if_neg (by decide +kernel)]; exact ⟨rfl, rfl⟩))
    (fun os started H enc _ => lifted_FnExactDecodeHex os started H enc)
theorem FnExactDecodeHex_holds : Rows.FnExactDecodeHexSaid := over_FnExactDecodeHex
end Go.Proofs.Ytcfpjcknilbinaa
