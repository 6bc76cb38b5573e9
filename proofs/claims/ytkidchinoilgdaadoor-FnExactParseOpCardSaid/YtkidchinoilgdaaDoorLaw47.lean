/- Law of reading operators: for every word the program's ParseOp returns the reference's operator. Conditions: none. -/
import Derived.Test.YtkidchinoilgdaaDoorPopJ
import Derived.Test.YtkidchinoilgdaaDoorPopS
import Derived.Test.YtkidchinoilgdaaDoorOpS
import Derived.Outline
namespace Go.Proofs.YtkidchinoilgdaaDoor
open Go.ChangeShapes Go.WideShapes Go.ChangeAt Go.RowKit

set_option maxRecDepth 100000 in
set_option maxHeartbeats 4000000 in
theorem walk_FnExactParseOp (s : ByteArray) (hs : s.size ≤ maxLen) (w : World) (hg : SignsAt w) : Calls Tryd.prog 4 #[.string s] w fun e w' => e = .returned (.bool true) ∧ Below w.heap.size w w' := by
 have Hs0 := Lib.hid hs
 unfold maxLen at hs
 by_cases hb : s.size ≤ 1048576
 rotate_left
 ·go_enter Tryd.func4, Tryd.ntmps4
  go_wp2_with fail
  go_ret
  exact ⟨rfl, bel_⟩
 go_enter Tryd.func4, Tryd.ntmps4
 go_wp2_with fail
 refine (s_ParseOp s Hs0.out w).mono ?_
 rintro e w1 ⟨rfl, hb1⟩
 obtain ⟨k, hk⟩ : ∃ k, k = (opPR s.data.toList).1.1 := ⟨_, rfl⟩
 obtain ⟨a, ha⟩ : ∃ a, a = (opPR s.data.toList).1.2.1 := ⟨_, rfl⟩
 obtain ⟨b, hbb⟩ : ∃ b, b = (opPR s.data.toList).1.2.2 := ⟨_, rfl⟩
 obtain ⟨ok, hok⟩ : ∃ o, o = (opPR s.data.toList).2 := ⟨_, rfl⟩
 rw [← hk, ← ha, ← hbb, ← hok]
 have Hk := Lib.hid hk
 have Ha := Lib.hid ha
 have Hbb := Lib.hid hbb
 have Hok := Lib.hid hok
 obtain ⟨W2, hW2⟩ : ∃ W2, W2 = w1.alloc (.cells #[.int .i64 k, .int .i64 a, .int .i64 b] 26) := ⟨_, rfl⟩
 have HX2 := Lib.hid (show Blk W2 w1.heap.size 26 #[.int .i64 k, .int .i64 a, .int .i64 b] by rw [hW2]; exact Blk.new _ _ _)
 have HB2 := Lib.hid (show Below w.heap.size w W2 by rw [hW2]; exact hb1.alloc hb1.size _)
 have HW2 := Lib.hid hW2
 have z1 := hb1.size
 clear hk ha hbb hok hW2 hb1
 go_wp2_with fail
 rw [← HW2.out]
 refine (i_ParseOp s Hs0.out W2 (hg.below HB2.out)).mono ?_
 rintro e w3 ⟨rfl, hb3⟩
 rw [← Hk.out, ← Ha.out, ← Hbb.out, ← Hok.out]
 have HX3 := Lib.hid (HX2.out.below hb3 HX2.out.lt)
 have HB3 := Lib.hid (HB2.out.trans (hb3.mono HB2.out.size))
 have zz3 : w1.heap.size < w3.heap.size := HX3.out.lt
 clear hb3
 obtain ⟨W4, hW4⟩ : ∃ W4, W4 = w3.alloc (.cells #[.int .i64 k, .int .i64 a, .int .i64 b] 26) := ⟨_, rfl⟩
 have HX4 := Lib.hid (show Blk W4 w1.heap.size 26 #[.int .i64 k, .int .i64 a, .int .i64 b] by rw [hW4]; exact HX3.out.alloc _)
 have HO4 := Lib.hid (show Blk W4 w3.heap.size 26 #[.int .i64 k, .int .i64 a, .int .i64 b] by rw [hW4]; exact Blk.new _ _ _)
 have HB4 := Lib.hid (show Below w.heap.size w W4 by rw [hW4]; exact HB3.out.alloc HB3.out.size _)
 have HW4 := Lib.hid hW4
 obtain ⟨x0, x1, x2⟩ := bk3 HX4.out
 obtain ⟨y0, y1, y2⟩ := bk3 HO4.out
 rw [hW4] at x0 x1 x2 y0 y1 y2
 clear hW4
 go_wp2_with fail
 rw [← HW4.out]
 refine (l_eqOp k a b W4).mono ?_
 rintro e w5 ⟨rfl, hb5⟩
 have HB5 := Lib.hid (HB4.out.trans (hb5.mono HB4.out.size))
 clear hb5 x0 x1 x2 y0 y1 y2
 cases ok
 ·go_wp2_with fail
  go_ret
  exact ⟨rfl, HB5.out⟩
 ·go_wp2_with fail
  go_ret
  exact ⟨rfl, HB5.out⟩
set_option maxRecDepth 100000 in
theorem lifted_FnExactParseOp (os : Os) (started : os.Started) (H : Type) (enc : TypeId × Value → H) :
  ReturnsInHanded {} Tryd.checked os 4 .any (fun w args => (Rows.fnExactParseOpSpec.pre enc Tryd.prog Tryd.f4 Rows.fnExactParseOpRow.domain false w args ∧ laidMetH Tryd.prog signsLaid w) ∧ sizedMet enc Tryd.prog Tryd.f4 (OpenSpec.ofChange Rows.fnExactParseOpSpec) false w args) (Rows.fnExactParseOpSpec.post enc Tryd.prog Tryd.f4 false true false false) := by
 refine liftV (F := 4) (fn := Tryd.f4) (s := Rows.fnExactParseOpSpec) (conds := Rows.fnExactParseOpRow.domain) (by kernel_rfl) Tryd.func4 (by kernel_rfl) rfl (by kernel_rfl) (by kernel_rfl) ?_ ?_ os started H enc
  (ChangeSpec.witness_shaped (enc := enc) (C := Tryd.checked) (os := os) (X := fun w _ => laidMetH Tryd.prog signsLaid w) false (World.laidAll Tryd.prog os signsLaid) #[.string ⟨#[]⟩] 8 (World.laidAll_os _ _ _) (World.shaped_of_ZipB (by kernel_rfl) (by kernel_rfl)) (by kernel_rfl) (by kernel_rfl) (by kernel_rfl)
   (by rw [MakeChecks.laidMetH_plain _ _ _ (by kernel_rfl)]; exact laidMet_laidAll _ (by kernel_rfl) (by kernel_rfl)))
 ·intro H ds g hl
  rw [Tryd.params4] at hl
  match ds, hl with
  | [d0], _ => exact ⟨rfl, rfl, rfl⟩
 ·intro W base args H enc ds p hval hA hlt hsg
  rw [Tryd.params4] at hA hval
  obtain ⟨v0, vs0, e0, es0, p0, q0, hargs, rfl, rfl, h0, r0⟩ := trodAll_cons hA
  obtain ⟨rfl, rfl, rfl⟩ := trodAll_nil r0
  obtain rfl : args = #[v0] := by cases args; simp_all
  obtain ⟨s, rfl, w0⟩ := op_string Tryd.underlying9 (hval 0 9 v0 rfl rfl) h0
  exact walk_FnExactParseOp s w0 W hsg
theorem facts_FnExactParseOp : joinedFacts Tryd.pinned.checked.prog 4 Tryd.f4 Rows.fnExactParseOpSpec Rows.fnExactParseOpRow = true :=
 facts_ofV (P := Tryd.prog) (vs := [40]) mayE liftE makeE rfl rfl (by kernel_rfl) (by kernel_rfl) (by kernel_rfl) (by kernel_rfl) (by kernel_rfl) (by kernel_rfl) (by kernel_rfl) (by kernel_rfl) (by kernel_rfl) (by kernel_rfl) (by kernel_rfl) (by kernel_rfl) (by kernel_rfl) (by kernel_rfl) (by kernel_rfl) (by kernel_rfl) (by kernel_rfl) (by kernel_rfl) (by kernel_rfl) (by kernel_rfl) (by kernel_rfl) (by kernel_rfl) (by kernel_rfl) (by kernel_rfl) (by kernel_rfl) (by kernel_rfl) rfl rfl (by kernel_rfl) (by kernel_rfl) (by kernel_rfl)
theorem over_FnExactParseOp : Rows.fnExactParseOpRow.holds Tryd.pinned (OpenSpec.ofChange Rows.fnExactParseOpSpec) :=
 OpenClaim.holds_of_wide 4 Tryd.f4 rfl rfl rfl rfl rfl rfl rfl ⟨rfl, rfl, rfl, rfl, rfl⟩ rfl rfl rfl rfl rfl (by kernel_rfl) Tryd.func4 facts_FnExactParseOp
  (of_decide_eq_true (by kernel_rfl)) (by unfold Func.isWrapper; first | (rw [if_pos (by decide +kernel)]; kernel_rfl) | (rw [if_neg (by decide +kernel)]; exact ⟨rfl, rfl⟩))
  (fun os started H enc _ => lifted_FnExactParseOp os started H enc)
theorem FnExactParseOp_holds : Rows.FnExactParseOpCardSaid :=
 Claim7.holds_tied_plain_at .later [] [.data] true (true, Rows.fnExactParseOpCard.stood.harness.2) false over_FnExactParseOp (fun _ h => by cases h) (by kernel_rfl) (fun _ h => by cases h) fnExactParseOp_row_tie rfl ⟨rfl, rfl⟩ (by kernel_rfl) rfl
  (fun f fn hf hfn => by
   obtain rfl : f = 4 := Option.some.inj ((show Tryd.prog.funcNamed "loop.example/g03311/laws.FnExactParseOp" = some 4 by kernel_rfl).symm.trans hf) |>.symm
   obtain rfl : fn = Tryd.f4 := (Option.some.inj (Tryd.func4.symm.trans hfn)).symm
   exact ⟨by kernel_rfl, fun j t ht => by
    have hall : (Tryd.f4.params.toList.all fun u => !Tryd.prog.wantsStandIn u) = true := by kernel_rfl
    have hm : t ∈ Tryd.f4.params.toList := by rw [Array.mem_toList_iff]; exact Array.mem_of_getElem? ht
    exact (show Tryd.prog.wantsStandIn t = false by simpa using List.all_eq_true.1 hall t hm)⟩)
  (by kernel_rfl)
end Go.Proofs.YtkidchinoilgdaaDoor
