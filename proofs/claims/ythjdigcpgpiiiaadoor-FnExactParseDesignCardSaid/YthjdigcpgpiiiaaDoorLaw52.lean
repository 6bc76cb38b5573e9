/- Law of a text's reading: for every text the program's ParseDesign returns the reference's design, in memory of its own, and whether there is one. Conditions: none. -/
import Derived.Test.YthjdigcpgpiiiaaDoorFrame8
import Derived.Test.YthjdigcpgpiiiaaDoorPsk
import Derived.Test.YthjdigcpgpiiiaaDoorGa
import Derived.Test.YthjdigcpgpiiiaaDoorFrameV
import Derived.Outline
namespace Go.Proofs.YthjdigcpgpiiiaaDoor
open Go.ChangeShapes Go.WideShapes Go.ChangeAt Go.RowKit

set_option maxRecDepth 100000 in
set_option maxHeartbeats 8000000 in
theorem walk_FnExactParseDesign (t : ByteArray) (_ : t.size ≤ maxLen) (w : World)  (hsg : SignsAt w) :
  Calls Tryd.prog 3 #[.string t] w fun e w' => e = .returned (.bool true) ∧ Below w.heap.size w w' := by
 have HB0 := Lib.hid (Below.refl w.heap.size w)
 by_cases hstr0 : 1048576 < (t.size : Int)
 ·go_enter Tryd.func3, Tryd.ntmps3
  go_wp2_with fail
  go_ret
  exact ⟨rfl, bel_⟩
 have hstr0 : (t.size : Int) ≤ 1048576 := by omega
 go_enter Tryd.func3, Tryd.ntmps3
 go_wp2_with fail
 refine (s_ParseDesign t (by omega) (w)).mono ?_
 rintro e w1 ⟨vw1_0, rfl, hqw1_0, hb1⟩
 obtain ⟨Aw1_0_0, nw1_0_0, cw1_0_0, rfl⟩ := hqw1_0.r.form
 have HQw1_0 := Lib.hid (QDesign.mono hqw1_0 (S' := Iv (w.heap.size) (w1.heap.size)) (fun b hb => by have := hb; simp [New] at this; exact ⟨by omega, this.2⟩))
 clear hqw1_0
 obtain ⟨q1, hq1⟩ : ∃ zz, zz = pdB t := ⟨_, rfl⟩
 rw [← hq1]
 have HS1 := Lib.hid hq1
 clear hq1
 have zw1 := hb1.size
 try simp at zw1
 have HB1 := Lib.hid (HB0.out.trans (hb1.mono (by have := HB0.out.size; (try simp) <;> omega)))
 clear HB0
 clear hb1
 have H3 := Lib.hid (QDesign.keep HQw1_0.out (w' := (w1.alloc (.cells #[.slice Aw1_0_0 nw1_0_0 cw1_0_0] 24))) (fun b hb => Below.heap_alloc _ _ b (by have := hb; simp only [Iv] at this; (try simp) <;> omega)))
 clear HQw1_0
 have HB4 := Lib.hid (HB1.out.alloc (by have := HB1.out.size; (try simp) <;> omega) (.cells #[.slice Aw1_0_0 nw1_0_0 cw1_0_0] 24))
 clear HB1
 have HX2 := Lib.hid (show Blk (w1.alloc (.cells #[.slice Aw1_0_0 nw1_0_0 cw1_0_0] 24)) (w1.heap.size) 24 #[.slice Aw1_0_0 nw1_0_0 cw1_0_0] from by have h := Blk.new (w1) 24 #[.slice Aw1_0_0 nw1_0_0 cw1_0_0]; simpa using h)
 go_wp2_with fail
 refine (i_ParseDesign t (by omega) ((w1.alloc (.cells #[.slice Aw1_0_0 nw1_0_0 cw1_0_0] 24))) (hsg.below HB4.out)).mono ?_
 rintro e w2 ⟨vw2_0, rfl, hqw2_0, hb2⟩
 obtain ⟨Aw2_0_0, nw2_0_0, cw2_0_0, rfl⟩ := hqw2_0.r.form
 have HQw2_0 := Lib.hid (QDesign.mono hqw2_0 (S' := Iv (w1.heap.size + 1) (w2.heap.size)) (fun b hb => by have := hb; simp [New] at this; exact ⟨by omega, this.2⟩))
 clear hqw2_0
 rw [← HS1.out]
 have zw2 := hb2.size
 try simp at zw2
 have H5 := Lib.hid (QDesign.keep H3.out (w' := w2) (fun b hb => hb2.block b (by have := hb; simp only [Iv] at this; (try simp) <;> omega)))
 clear H3
 have H6 := Lib.hid (HX2.out.below hb2 HX2.out.lt)
 clear HX2
 have HB7 := Lib.hid (HB4.out.trans (hb2.mono (by have := HB4.out.size; (try simp) <;> omega)))
 clear HB4
 clear hb2
 have H9 := Lib.hid (QDesign.keep H5.out (w' := (w2.alloc (.cells #[.slice Aw2_0_0 nw2_0_0 cw2_0_0] 24))) (fun b hb => Below.heap_alloc _ _ b (by have := hb; simp only [Iv] at this; (try simp) <;> omega)))
 clear H5
 have H10 := Lib.hid (H6.out.alloc (.cells #[.slice Aw2_0_0 nw2_0_0 cw2_0_0] 24))
 clear H6
 have H11 := Lib.hid (QDesign.keep HQw2_0.out (w' := (w2.alloc (.cells #[.slice Aw2_0_0 nw2_0_0 cw2_0_0] 24))) (fun b hb => Below.heap_alloc _ _ b (by have := hb; simp only [Iv] at this; (try simp) <;> omega)))
 clear HQw2_0
 have HB12 := Lib.hid (HB7.out.alloc (by have := HB7.out.size; (try simp) <;> omega) (.cells #[.slice Aw2_0_0 nw2_0_0 cw2_0_0] 24))
 clear HB7
 have HX8 := Lib.hid (show Blk (w2.alloc (.cells #[.slice Aw2_0_0 nw2_0_0 cw2_0_0] 24)) (w2.heap.size) 24 #[.slice Aw2_0_0 nw2_0_0 cw2_0_0] from by have h := Blk.new (w2) 24 #[.slice Aw2_0_0 nw2_0_0 cw2_0_0]; simpa using h)
 have yHX8_0 := blkS1 HX8.out
 have yH10_0 := blkS1 H10.out
 go_wp2_with fail
 refine (d_eqDesign (pd_sz t) H11.out.r H9.out.r (fun b hb => by have := hb; simp only [Iv] at this; (try simp) <;> omega) (fun b hb => by have := hb; simp only [Iv] at this; (try simp) <;> omega)).mono ?_
 rintro e w3 ⟨rfl, hb3⟩
 have zw3 := hb3.size
 try simp at zw3
 have H13 := Lib.hid (QDesign.keep H9.out (w' := w3) (fun b hb => hb3.block b (by have := hb; simp only [Iv] at this; (try simp) <;> omega)))
 clear H9
 have H14 := Lib.hid (H10.out.below hb3 H10.out.lt)
 clear H10
 have H15 := Lib.hid (QDesign.keep H11.out (w' := w3) (fun b hb => hb3.block b (by have := hb; simp only [Iv] at this; (try simp) <;> omega)))
 clear H11
 have H16 := Lib.hid (HX8.out.below hb3 HX8.out.lt)
 clear HX8
 have HB17 := Lib.hid (HB12.out.trans (hb3.mono (by have := HB12.out.size; (try simp) <;> omega)))
 clear HB12
 clear hb3
 clear yHX8_0 yH10_0
 have yH16_0 := blkS1 H16.out
 go_wp2_with fail
 have hmb18 : nDesign (pdD t) ≤ 8388608 := by have h1 := nDesign_le (pdD t); have h2 : sDesign (pdD t) ≤ 1048576 := pd_sz t; omega
 refine (d_markDesign (1) (by omega) H15.out (fun b hb => by have := hb; simp only [Iv] at this; (try simp) <;> omega)).mono ?_
 rintro e w4 ⟨rfl, hqw4, hb4⟩
 obtain ⟨mk19, hmk19⟩ : ∃ zz, zz = 1 + nDesign (pdD t) := ⟨_, rfl⟩
 rw [← hmk19]
 have hmk19b : mk19 ≤ 8388609 := by omega
 have HMmk19 := Lib.hid hmk19
 clear hmk19 hmb18
 clear H15
 have zw4 := hb4.size
 try simp at zw4
 have H20 := Lib.hid (QDesign.keep H13.out (w' := w4) (fun b hb => hb4.block b (by have := hb; simp only [Iv] at this; (try simp) <;> omega) (fun hc => by have := hb; simp only [Iv] at this; simp only [Iv] at hc; omega)))
 clear H13
 have H21 := Lib.hid (hb4.blk H14.out (fun hc => by simp only [Iv] at hc; (try simp at hc) <;> omega))
 clear H14
 have H22 := Lib.hid (hb4.blk H16.out (fun hc => by simp only [Iv] at hc; (try simp at hc) <;> omega))
 clear H16
 have HB23 := Lib.hid (HB17.out.trans (hb4.below (by have := HB17.out.size; (try simp) <;> omega) (fun b hb => by simp only [Iv] at hb; omega)))
 clear HB17
 clear hb4
 have HQw4 := Lib.hid hqw4
 clear hqw4
 clear yH16_0
 have yH22_0 := blkS1 H22.out
 go_wp2_with fail
 have hmb24 : 1 + nDesign (pdD t) ≤ 1099511627776 := by rw [← HMmk19.out]; omega
 refine (d_heldDesign (1) (by omega) HQw4.out.r (fun b hb => by have := hb; simp only [Iv] at this; (try simp) <;> omega)).mono ?_
 rintro e w5 ⟨rfl, hb5⟩
 rw [← HMmk19.out]
 clear hmb24
 have zw5 := hb5.size
 try simp at zw5
 have H25 := Lib.hid (QDesign.keep H20.out (w' := w5) (fun b hb => hb5.block b (by have := hb; simp only [Iv] at this; (try simp) <;> omega)))
 clear H20
 have H26 := Lib.hid (H21.out.below hb5 H21.out.lt)
 clear H21
 have H27 := Lib.hid (H22.out.below hb5 H22.out.lt)
 clear H22
 have H28 := Lib.hid (QDesign.keep HQw4.out (w' := w5) (fun b hb => hb5.block b (by have := hb; simp only [Iv] at this; (try simp) <;> omega)))
 clear HQw4
 have HB29 := Lib.hid (HB23.out.trans (hb5.mono (by have := HB23.out.size; (try simp) <;> omega)))
 clear HB23
 clear hb5
 clear yH22_0
 go_wp2_with fail
 refine (i_ParseDesign t (by omega) (w5) (hsg.below HB29.out)).mono ?_
 rintro e w6 ⟨vw6_0, rfl, hqw6_0, hb6⟩
 obtain ⟨Aw6_0_0, nw6_0_0, cw6_0_0, rfl⟩ := hqw6_0.r.form
 have HQw6_0 := Lib.hid (QDesign.mono hqw6_0 (S' := Iv (w5.heap.size) (w6.heap.size)) (fun b hb => by have := hb; simp [New] at this; exact ⟨by omega, this.2⟩))
 clear hqw6_0
 rw [← HS1.out]
 have zw6 := hb6.size
 try simp at zw6
 have H30 := Lib.hid (QDesign.keep H25.out (w' := w6) (fun b hb => hb6.block b (by have := hb; simp only [Iv] at this; (try simp) <;> omega)))
 clear H25
 have H31 := Lib.hid (H26.out.below hb6 H26.out.lt)
 clear H26
 have H32 := Lib.hid (H27.out.below hb6 H27.out.lt)
 clear H27
 have H33 := Lib.hid (QDesign.keep H28.out (w' := w6) (fun b hb => hb6.block b (by have := hb; simp only [Iv] at this; (try simp) <;> omega)))
 clear H28
 have HB34 := Lib.hid (HB29.out.trans (hb6.mono (by have := HB29.out.size; (try simp) <;> omega)))
 clear HB29
 clear hb6
 have H36 := Lib.hid (QDesign.keep H30.out (w' := (w6.alloc (.cells #[.slice Aw6_0_0 nw6_0_0 cw6_0_0] 24))) (fun b hb => Below.heap_alloc _ _ b (by have := hb; simp only [Iv] at this; (try simp) <;> omega)))
 clear H30
 have H37 := Lib.hid (H31.out.alloc (.cells #[.slice Aw6_0_0 nw6_0_0 cw6_0_0] 24))
 clear H31
 have H38 := Lib.hid (H32.out.alloc (.cells #[.slice Aw6_0_0 nw6_0_0 cw6_0_0] 24))
 clear H32
 have H39 := Lib.hid (QDesign.keep H33.out (w' := (w6.alloc (.cells #[.slice Aw6_0_0 nw6_0_0 cw6_0_0] 24))) (fun b hb => Below.heap_alloc _ _ b (by have := hb; simp only [Iv] at this; (try simp) <;> omega)))
 clear H33
 have H40 := Lib.hid (QDesign.keep HQw6_0.out (w' := (w6.alloc (.cells #[.slice Aw6_0_0 nw6_0_0 cw6_0_0] 24))) (fun b hb => Below.heap_alloc _ _ b (by have := hb; simp only [Iv] at this; (try simp) <;> omega)))
 clear HQw6_0
 have HB41 := Lib.hid (HB34.out.alloc (by have := HB34.out.size; (try simp) <;> omega) (.cells #[.slice Aw6_0_0 nw6_0_0 cw6_0_0] 24))
 clear HB34
 have HX35 := Lib.hid (show Blk (w6.alloc (.cells #[.slice Aw6_0_0 nw6_0_0 cw6_0_0] 24)) (w6.heap.size) 24 #[.slice Aw6_0_0 nw6_0_0 cw6_0_0] from by have h := Blk.new (w6) 24 #[.slice Aw6_0_0 nw6_0_0 cw6_0_0]; simpa using h)
 have yHX35_0 := blkS1 HX35.out
 have yH37_0 := blkS1 H37.out
 go_wp2_with fail
 refine (d_eqDesign (pd_sz t) H40.out.r H36.out.r (fun b hb => by have := hb; simp only [Iv] at this; (try simp) <;> omega) (fun b hb => by have := hb; simp only [Iv] at this; (try simp) <;> omega)).mono ?_
 rintro e w7 ⟨rfl, hb7⟩
 have zw7 := hb7.size
 try simp at zw7
 clear H36 H37 H40 HX35
 have H42 := Lib.hid (H38.out.below hb7 H38.out.lt)
 clear H38
 have H43 := Lib.hid (QDesign.keep H39.out (w' := w7) (fun b hb => hb7.block b (by have := hb; simp only [Iv] at this; (try simp) <;> omega)))
 clear H39
 have HB44 := Lib.hid (HB41.out.trans (hb7.mono (by have := HB41.out.size; (try simp) <;> omega)))
 clear HB41
 clear hb7
 clear yHX35_0 yH37_0
 have yH42_0 := blkS1 H42.out
 go_wp2_with fail
 have hmb45 : 1 + nDesign (pdD t) ≤ 1099511627776 := by rw [← HMmk19.out]; omega
 refine (d_heldDesign (1) (by omega) H43.out.r (fun b hb => by have := hb; simp only [Iv] at this; (try simp) <;> omega)).mono ?_
 rintro e w8 ⟨rfl, hb8⟩
 rw [← HMmk19.out]
 clear hmb45
 have zw8 := hb8.size
 try simp at zw8
 clear H42 H43
 have HB46 := Lib.hid (HB44.out.trans (hb8.mono (by have := HB44.out.size; (try simp) <;> omega)))
 clear HB44
 clear hb8
 clear yH42_0
 go_wp2_with fail
 go_ret
 exact ⟨rfl, HB46.out⟩
set_option maxRecDepth 100000 in
theorem lifted_FnExactParseDesign (os : Os) (started : os.Started) (H : Type) (enc : TypeId × Value → H) :
  ReturnsInHanded {} Tryd.checked os 3 .any (fun w args => (Rows.fnExactParseDesignSpec.pre enc Tryd.prog Tryd.f3 Rows.fnExactParseDesignRow.domain false w args ∧ laidMetH Tryd.prog signsLaid w) ∧ sizedMet enc Tryd.prog Tryd.f3 (OpenSpec.ofChange Rows.fnExactParseDesignSpec) false w args) (Rows.fnExactParseDesignSpec.post enc Tryd.prog Tryd.f3 false true false false) := by
 refine liftV (F := 3) (fn := Tryd.f3) (s := Rows.fnExactParseDesignSpec) (conds := Rows.fnExactParseDesignRow.domain) (by kernel_rfl) Tryd.func3 (by kernel_rfl) rfl (by kernel_rfl) (by kernel_rfl) ?_ ?_ os started H enc
  (ChangeSpec.witness_shaped (enc := enc) (C := Tryd.checked) (os := os) (X := fun w _ => laidMetH Tryd.prog signsLaid w) false (World.laidAll Tryd.prog os signsLaid) #[.string ⟨#[]⟩] 8 (World.laidAll_os _ _ _) (World.shaped_of_ZipB (by kernel_rfl) (by kernel_rfl)) (by kernel_rfl) (by kernel_rfl) (by kernel_rfl)
   (by rw [MakeChecks.laidMetH_plain _ _ _ (by kernel_rfl)]; exact laidMet_laidAll _ (by kernel_rfl) (by kernel_rfl)))
 ·intro H ds g hl
  rw [Tryd.params3] at hl
  match ds, hl with
  | [d0], _ => exact ⟨rfl, rfl, rfl⟩
 ·intro W base args H enc ds p hval hA hlt hsg
  rw [Tryd.params3] at hA hval
  obtain ⟨v0, vs0, e0, es0, p0, q0, hargs, rfl, rfl, h0, r0⟩ := trodAll_cons hA
  obtain ⟨rfl, rfl, rfl⟩ := trodAll_nil r0
  obtain rfl : args = #[v0] := by cases args; simp_all
  obtain ⟨t, rfl, w0⟩ := op_string Tryd.underlying9 (hval 0 9 v0 rfl rfl) h0
  exact walk_FnExactParseDesign t w0 W hsg
theorem facts_FnExactParseDesign : joinedFacts Tryd.pinned.checked.prog 3 Tryd.f3 Rows.fnExactParseDesignSpec Rows.fnExactParseDesignRow = true :=
 facts_ofV (P := Tryd.prog) (vs := [43]) mayE liftE makeE rfl rfl (by kernel_rfl) (by kernel_rfl) (by kernel_rfl) (by kernel_rfl) (by kernel_rfl) (by kernel_rfl) (by kernel_rfl) (by kernel_rfl) (by kernel_rfl) (by kernel_rfl) (by kernel_rfl) (by kernel_rfl) (by kernel_rfl) (by kernel_rfl) (by kernel_rfl) (by kernel_rfl) (by kernel_rfl) (by kernel_rfl) (by kernel_rfl) (by kernel_rfl) (by kernel_rfl) (by kernel_rfl) (by kernel_rfl) (by kernel_rfl) (by kernel_rfl) (by kernel_rfl) rfl rfl (by kernel_rfl) (by kernel_rfl) (by kernel_rfl)
theorem over_FnExactParseDesign : Rows.fnExactParseDesignRow.holds Tryd.pinned (OpenSpec.ofChange Rows.fnExactParseDesignSpec) :=
 OpenClaim.holds_of_wide 3 Tryd.f3 rfl rfl rfl rfl rfl rfl rfl ⟨rfl, rfl, rfl, rfl, rfl⟩ rfl rfl rfl rfl rfl (by kernel_rfl) Tryd.func3 facts_FnExactParseDesign
  (of_decide_eq_true (by kernel_rfl)) (by unfold Func.isWrapper; first | (rw [if_pos (by decide +kernel)]; kernel_rfl) | (rw [if_neg (by decide +kernel)]; exact ⟨rfl, rfl⟩))
  (fun os started H enc _ => lifted_FnExactParseDesign os started H enc)
theorem FnExactParseDesign_holds : Rows.FnExactParseDesignCardSaid :=
 Claim7.holds_tied_plain_at .later [] [.data] true (true, Rows.fnExactParseDesignCard.stood.harness.2) false over_FnExactParseDesign (fun _ h => by cases h) (by kernel_rfl) (fun _ h => by cases h) fnExactParseDesign_row_tie rfl ⟨rfl, rfl⟩ (by kernel_rfl) rfl
  (fun f fn hf hfn => by
   obtain rfl : f = 3 := Option.some.inj ((show Tryd.prog.funcNamed "loop.example/g03311/laws.FnExactParseDesign" = some 3 by kernel_rfl).symm.trans hf) |>.symm
   obtain rfl : fn = Tryd.f3 := (Option.some.inj (Tryd.func3.symm.trans hfn)).symm
   exact ⟨by kernel_rfl, fun j t ht => by
    have hall : (Tryd.f3.params.toList.all fun u => !Tryd.prog.wantsStandIn u) = true := by kernel_rfl
    have hm : t ∈ Tryd.f3.params.toList := by rw [Array.mem_toList_iff]; exact Array.mem_of_getElem? ht
    exact (show Tryd.prog.wantsStandIn t = false by simpa using List.all_eq_true.1 hall t hm)⟩)
  (by kernel_rfl)
end Go.Proofs.YthjdigcpgpiiiaaDoor
