/- Law of operator words: for every operator the program's OpText returns the reference's word and whether there is one. Conditions: none. -/
import Derived.Test.YtkidchinoilgdaaDoorOpt
import Derived.Test.YtkidchinoilgdaaDoorOpS
import Derived.Outline
namespace Go.Proofs.YtkidchinoilgdaaDoor
open Go.ChangeShapes Go.WideShapes Go.ChangeAt Go.RowKit

set_option maxRecDepth 100000 in
set_option maxHeartbeats 4000000 in
theorem walk_FnExactOpText (k a b : Int) (w : World) (hs : SignsAt w) : Calls Tryd.prog 3 #[.agg #[.int .i64 k, .int .i64 a, .int .i64 b]] w fun e w' => e = .returned (.bool true) ∧ Below w.heap.size w w' := by
 obtain ⟨U, hU⟩ : ∃ U, U = w.alloc (.cells #[.int .i64 k, .int .i64 a, .int .i64 b] 23) := ⟨_, rfl⟩
 have HU := Lib.hid hU
 have HX := Lib.hid (show Blk U w.heap.size 23 #[.int .i64 k, .int .i64 a, .int .i64 b] by rw [hU]; exact Blk.new _ _ _)
 have HB0 := Lib.hid (show Below w.heap.size w U by rw [hU]; exact (Below.refl _ _).alloc (Nat.le_refl _) _)
 have hzu : w.heap.size < U.heap.size := HX.out.lt
 clear hU
 go_enter Tryd.func3, Tryd.ntmps3
 have y0 := HX.out.cell 0
 have y1 := HX.out.cell 1
 have y2 := HX.out.cell 2
 simp only [List.getElem?_toArray, List.getElem?_cons_zero, List.getElem?_cons_succ] at y0 y1 y2
 rw [HU.out] at y0 y1 y2
 go_wp2_with fail
 rw [← HU.out]
 refine (l_toOp k a b U).mono ?_
 rintro e w1 ⟨rfl, hb1⟩
 have HB1 := Lib.hid (HB0.out.trans (hb1.mono (by omega)))
 have HX1 := Lib.hid (HX.out.below hb1 HX.out.lt)
 have z1 := HB1.out.size
 clear hb1 y0 y1 y2
 go_wp2_with fail
 refine (s_OpText k a b w1).mono ?_
 rintro e w2 ⟨rfl, hb2⟩
 have HB2 := Lib.hid (HB1.out.trans (hb2.mono z1))
 have HX2 := Lib.hid (HX1.out.below hb2 HX1.out.lt)
 have z2 := HB2.out.size
 have Hs2 := Lib.hid (hs.below HB2.out)
 clear hb2
 obtain ⟨t, ht⟩ : ∃ t, t = (⟨(opTxR k a b).toArray⟩ : ByteArray) := ⟨_, rfl⟩
 obtain ⟨q, hq⟩ : ∃ q, q = opB k a b 30 := ⟨_, rfl⟩
 have y0 := HX2.out.cell 0
 have y1 := HX2.out.cell 1
 have y2 := HX2.out.cell 2
 simp only [List.getElem?_toArray, List.getElem?_cons_zero, List.getElem?_cons_succ] at y0 y1 y2
 rw [← ht, ← hq]
 have Ht := Lib.hid ht
 have Hq := Lib.hid hq
 clear ht hq
 go_wp2_with fail
 refine (l_toOp k a b w2).mono ?_
 rintro e w3 ⟨rfl, hb3⟩
 have HB3 := Lib.hid (HB2.out.trans (hb3.mono z2))
 have Hs3 := Lib.hid (hs.below HB3.out)
 have z3 := HB3.out.size
 clear hb3 y0 y1 y2
 go_wp2_with fail
 refine (i_OpText k a b w3 Hs3.out).mono ?_
 rintro e w4 ⟨rfl, hb4⟩
 rw [← Ht.out, ← Hq.out]
 have HB4 := Lib.hid (HB3.out.trans (hb4.mono z3))
 clear hb4
 have ht0 : (t.toList == t.toList) = true := by simp
 cases q
 ·go_wp2_with fail
  go_ret
  exact ⟨rfl, HB4.out⟩
 ·go_wp2_with fail
  go_ret
  exact ⟨rfl, HB4.out⟩
set_option maxRecDepth 100000 in
theorem lifted_FnExactOpText (os : Os) (started : os.Started) (H : Type) (enc : TypeId × Value → H) :
  ReturnsInHanded {} Tryd.checked os 3 .any (fun w args => (Rows.fnExactOpTextSpec.pre enc Tryd.prog Tryd.f3 Rows.fnExactOpTextRow.domain false w args ∧ laidMetH Tryd.prog signsLaid w) ∧ sizedMet enc Tryd.prog Tryd.f3 (OpenSpec.ofChange Rows.fnExactOpTextSpec) false w args) (Rows.fnExactOpTextSpec.post enc Tryd.prog Tryd.f3 false true false false) := by
 refine liftV (F := 3) (fn := Tryd.f3) (s := Rows.fnExactOpTextSpec) (conds := Rows.fnExactOpTextRow.domain) (by kernel_rfl) Tryd.func3 (by kernel_rfl) rfl (by kernel_rfl) (by kernel_rfl) ?_ ?_ os started H enc
  (ChangeSpec.witness_shaped (enc := enc) (C := Tryd.checked) (os := os) (X := fun w _ => laidMetH Tryd.prog signsLaid w) false (World.laidAll Tryd.prog os signsLaid) #[.agg #[.int .i64 0, .int .i64 0, .int .i64 0]] 8 (World.laidAll_os _ _ _) (World.shaped_of_ZipB (by kernel_rfl) (by kernel_rfl)) (by kernel_rfl) (by kernel_rfl) (by kernel_rfl)
   (by rw [MakeChecks.laidMetH_plain _ _ _ (by kernel_rfl)]; exact laidMet_laidAll _ (by kernel_rfl) (by kernel_rfl)))
 ·intro H ds g hl
  rw [Tryd.params3] at hl
  match ds, hl with
  | [d0], _ => exact ⟨rfl, rfl, rfl⟩
 ·intro W base args H enc ds p hval hA hlt hsg
  rw [Tryd.params3] at hA hval
  obtain ⟨v0, vs0, e0, es0, p0, q0, hargs, rfl, rfl, h0, r0⟩ := trodAll_cons hA
  obtain ⟨rfl, rfl, rfl⟩ := trodAll_nil r0
  obtain rfl : args = #[v0] := by cases args; simp_all
  obtain ⟨k, a, b, rfl⟩ := op_agg3 Tryd.underlying23 (by kernel_rfl) (by kernel_rfl) Tryd.underlying3 Tryd.underlying3 Tryd.underlying3 (hval 0 23 v0 rfl rfl) h0
  exact walk_FnExactOpText k a b W hsg
theorem facts_FnExactOpText : joinedFacts Tryd.pinned.checked.prog 3 Tryd.f3 Rows.fnExactOpTextSpec Rows.fnExactOpTextRow = true :=
 facts_ofV (P := Tryd.prog) (vs := [40]) mayE liftE makeE rfl rfl (by kernel_rfl) (by kernel_rfl) (by kernel_rfl) (by kernel_rfl) (by kernel_rfl) (by kernel_rfl) (by kernel_rfl) (by kernel_rfl) (by kernel_rfl) (by kernel_rfl) (by kernel_rfl) (by kernel_rfl) (by kernel_rfl) (by kernel_rfl) (by kernel_rfl) (by kernel_rfl) (by kernel_rfl) (by kernel_rfl) (by kernel_rfl) (by kernel_rfl) (by kernel_rfl) (by kernel_rfl) (by kernel_rfl) (by kernel_rfl) (by kernel_rfl) (by kernel_rfl) rfl rfl (by kernel_rfl) (by kernel_rfl) (by kernel_rfl)
theorem over_FnExactOpText : Rows.fnExactOpTextRow.holds Tryd.pinned (OpenSpec.ofChange Rows.fnExactOpTextSpec) :=
 OpenClaim.holds_of_wide 3 Tryd.f3 rfl rfl rfl rfl rfl rfl rfl ⟨rfl, rfl, rfl, rfl, rfl⟩ rfl rfl rfl rfl rfl (by kernel_rfl) Tryd.func3 facts_FnExactOpText
  (of_decide_eq_true (by kernel_rfl)) (by unfold Func.isWrapper; first | (rw [if_pos (by decide +kernel)]; kernel_rfl) | (rw [if_neg (by decide +kernel)]; exact ⟨rfl, rfl⟩))
  (fun os started H enc _ => lifted_FnExactOpText os started H enc)
theorem FnExactOpText_holds : Rows.FnExactOpTextCardSaid :=
 Claim7.holds_tied_plain_at .later [] [.data] true (true, Rows.fnExactOpTextCard.stood.harness.2) false over_FnExactOpText (fun _ h => by cases h) (by kernel_rfl) (fun _ h => by cases h) fnExactOpText_row_tie rfl ⟨rfl, rfl⟩ (by kernel_rfl) rfl
  (fun f fn hf hfn => by
   obtain rfl : f = 3 := Option.some.inj ((show Tryd.prog.funcNamed "loop.example/g03311/laws.FnExactOpText" = some 3 by kernel_rfl).symm.trans hf) |>.symm
   obtain rfl : fn = Tryd.f3 := (Option.some.inj (Tryd.func3.symm.trans hfn)).symm
   exact ⟨by kernel_rfl, fun j t ht => by
    have hall : (Tryd.f3.params.toList.all fun u => !Tryd.prog.wantsStandIn u) = true := by kernel_rfl
    have hm : t ∈ Tryd.f3.params.toList := by rw [Array.mem_toList_iff]; exact Array.mem_of_getElem? ht
    exact (show Tryd.prog.wantsStandIn t = false by simpa using List.all_eq_true.1 hall t hm)⟩)
  (by kernel_rfl)
end Go.Proofs.YtkidchinoilgdaaDoor
