/- Law of clamped numbers: for every code the drawn numbers clamp as the law says. Conditions: none. -/
import Derived.Test.YtcfpjcknilbinaaFrame3
import Derived.Test.YtcfpjcknilbinaaDrawN
namespace Go.Proofs.Ytcfpjcknilbinaa
open Go.ChangeShapes Go.WideShapes Go.ChangeAt Go.RowKit

theorem clamp_735 : clamp 7 3 5 = 5 := by decide
theorem clamp_lo {n a b : Int} (h : b < a) : clamp n a b = a := by unfold clamp; rw [if_pos (.inl h)]
theorem clamp_ge {n a b : Int} (h : ¬ b < a) : a ≤ clamp n a b ∧ clamp n a b ≤ b := by
  unfold clamp; repeat (split <;> try omega)
theorem clamp_again {n a b : Int} (h : ¬ b < a) : clamp (clamp n a b) a b = clamp n a b := by
  unfold clamp; repeat (split <;> try omega)
theorem clamp_same {n a b : Int} (h1 : a ≤ n) (h2 : n ≤ b) : clamp n a b = n := by
  unfold clamp; repeat (split <;> try omega)

set_option maxRecDepth 100000 in
set_option maxHeartbeats 4000000 in
theorem walk_FnClamped (A : Option Addr) (n c : Nat) (l : List UInt8) (w : World) (hr : Reads w w.heap.size 1 A n (bys l)) : Calls Try.prog 17 #[.slice A n c] w fun e w' => e = .returned (.bool true) ∧ Below w.heap.size w w' := by
  by_cases hb : n ≤ 1048576
  · have H735 := Lib.hid clamp_735
    go_enter Try.func17, Try.ntmps17
    go_wp2_with (first | (go_at_call 63; go_in))
    refine (s_DrawClamp hr hb).mono ?_
    rintro e w1 ⟨x, a, b, rfl, hb1⟩
    by_cases hba : b < a
    · have Hc := Lib.hid (clamp_lo (n := x) hba)
      go_wp2_with fail
      refine (i_Clamp _ _ _ _).mono ?_
      rintro e w' ⟨rfl, rfl⟩
      rw [Hc.out]
      go_wp2_with fail
      refine (i_Clamp _ _ _ _).mono ?_
      rintro e w' ⟨rfl, rfl⟩
      rw [H735.out]
      go_wp2_with fail
      go_ret
      exact ⟨rfl, hb1⟩
    · have hge := clamp_ge (n := x) hba
      have hag := clamp_again (n := x) hba
      have hsm := fun h1 h2 => clamp_same (n := x) (a := a) (b := b) h1 h2
      have hab : a ≤ b := by omega
      go_wp2_with fail
      refine (i_Clamp _ _ _ _).mono ?_
      rintro e w' ⟨rfl, rfl⟩
      generalize clamp x a b = y at hge hag hsm ⊢
      have hy1 := hge.1
      have hy2 := hge.2
      have Hag := Lib.hid hag
      have Hsm := Lib.hid hsm
      clear hge hag hsm
      by_cases hx1 : x < a
      · go_wp2_with fail
        refine (i_Clamp _ _ _ _).mono ?_
        rintro e w' ⟨rfl, rfl⟩
        rw [Hag.out]
        go_wp2_with fail
        refine (i_Clamp _ _ _ _).mono ?_
        rintro e w' ⟨rfl, rfl⟩
        rw [H735.out]
        go_wp2_with fail
        go_ret
        exact ⟨rfl, hb1⟩
      · by_cases hx2 : b < x
        · go_wp2_with fail
          refine (i_Clamp _ _ _ _).mono ?_
          rintro e w' ⟨rfl, rfl⟩
          rw [Hag.out]
          go_wp2_with fail
          refine (i_Clamp _ _ _ _).mono ?_
          rintro e w' ⟨rfl, rfl⟩
          rw [H735.out]
          go_wp2_with fail
          go_ret
          exact ⟨rfl, hb1⟩
        · obtain rfl : y = x := Hsm.out (by omega) (by omega)
          have hxa : a ≤ y := by omega
          have hxb : y ≤ b := by omega
          go_wp2_with fail
          refine (i_Clamp _ _ _ _).mono ?_
          rintro e w' ⟨rfl, rfl⟩
          rw [Hag.out]
          go_wp2_with fail
          refine (i_Clamp _ _ _ _).mono ?_
          rintro e w' ⟨rfl, rfl⟩
          rw [H735.out]
          go_wp2_with fail
          go_ret
          exact ⟨rfl, hb1⟩
  · go_enter Try.func17, Try.ntmps17
    go_wp2_with (first | (go_at_call 63; go_in))
    go_ret
    exact ⟨rfl, Below.refl _ _⟩
set_option maxRecDepth 100000 in
theorem lifted_FnClamped (os : Os) (started : os.Started) (H : Type) (enc : TypeId × Value → H) :
    ReturnsInHanded {} Try.checked os 17 .any (Rows.fnClampedSpec.pre6 enc Try.prog Try.f17 Rows.fnClampedRow.domain false) (Rows.fnClampedSpec.post enc Try.prog Try.f17 false true false false) := by
  refine lift (F := 17) (fn := Try.f17) (s := Rows.fnClampedSpec) (conds := Rows.fnClampedRow.domain) (by kernel_rfl) Try.func17 (by kernel_rfl) rfl (by kernel_rfl) ?_ ?_ os started H enc
    (ChangeSpec.witness6 (enc := enc) (C := Try.checked) false ⟨#[], #[.slice none 0 0], []⟩ 8 (by kernel_rfl) (by kernel_rfl) (by kernel_rfl) (by kernel_rfl))
  · intro H ds hl
    rw [Try.params17] at hl
    match ds, hl with
    | [d0], _ => exact ⟨rfl, rfl, rfl⟩
  · intro W base args H enc ds p hval hA hlt
    rw [Try.params17] at hA hval
    obtain ⟨v0, vs0, e0, es0, p0, q0, hargs, rfl, rfl, h0, r0⟩ := trodAll_cons hA
    obtain ⟨rfl, rfl, rfl⟩ := trodAll_nil r0
    obtain rfl : args = #[v0] := by cases args; simp_all
    obtain ⟨A0, n0, c0, l, rfl, w0⟩ := op_bytes Try.underlying55 Try.underlying5 (by kernel_rfl) (hval 0 55 v0 rfl rfl) h0 (fun x hx => hlt x (by simp [hx]))
    exact walk_FnClamped A0 n0 c0 l W w0
theorem facts_FnClamped : joinedFacts Try.pinned.checked.prog 17 Try.f17 Rows.fnClampedSpec Rows.fnClampedRow = true :=
  facts_of (P := Try.prog) mayE liftE makeE rfl rfl (by kernel_rfl) (by kernel_rfl) (by kernel_rfl) (by kernel_rfl) (by kernel_rfl) (by kernel_rfl) (by kernel_rfl) (by kernel_rfl) (by kernel_rfl) (by kernel_rfl) (by kernel_rfl) (by kernel_rfl) (by kernel_rfl) rfl rfl (by kernel_rfl) (by kernel_rfl) (by kernel_rfl) (by kernel_rfl) (by kernel_rfl) (by kernel_rfl) (by kernel_rfl) (by kernel_rfl) (by kernel_rfl) (by kernel_rfl) (by kernel_rfl) rfl rfl (by kernel_rfl) (by kernel_rfl) (by kernel_rfl)
theorem over_FnClamped : Rows.fnClampedRow.holds Try.pinned (OpenSpec.ofChange Rows.fnClampedSpec) :=
  OpenClaim.holds_of_wide 17 Try.f17 rfl rfl rfl rfl rfl rfl rfl ⟨rfl, rfl, rfl, rfl, rfl⟩ rfl rfl rfl rfl rfl (by kernel_rfl) Try.func17 facts_FnClamped
    (of_decide_eq_true (by kernel_rfl)) (by unfold Func.isWrapper; first | (rw [if_pos (by decide +kernel)]; kernel_rfl) | (rw [if_neg (by decide +kernel)]; exact ⟨rfl, rfl⟩))
    (fun os started H enc _ => lifted_FnClamped os started H enc)
theorem FnClamped_holds : Rows.FnClampedSaid := over_FnClamped
end Go.Proofs.Ytcfpjcknilbinaa
