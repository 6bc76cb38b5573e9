/- Law of a design's text: for every design the program's FormatDesign returns the reference's text and whether there is one. Conditions: none. -/
import Derived.Test.YtlgbdpcobbbglaaDoorFrame8
import Derived.Test.YtlgbdpcobbbglaaDoorFdd
import Derived.Test.YtlgbdpcobbbglaaDoorGa
import Derived.Test.YtlgbdpcobbbglaaDoorFrameV
import Derived.Outline
namespace Go.Proofs.YtlgbdpcobbbglaaDoor
open Go.ChangeShapes Go.WideShapes Go.ChangeAt Go.RowKit

set_option maxRecDepth 100000 in
set_option maxHeartbeats 8000000 in
theorem walk_FnExactFormatDesign (v0 : Value) (d : TDesign) (w : World) (h0 : RDesign (w) (fun b => b < w.heap.size) (v0) d ∧ WfDesign d) (hsg : SignsAt w) :
  Calls Tryd.prog 4 #[v0] w fun e w' => e = .returned (.bool true) ∧ Below w.heap.size w w' := by
 obtain ⟨h0, wf0⟩ := h0
 have WF0 := Lib.hid wf0
 clear wf0
 obtain ⟨Aa0_0, na0_0, ca0_0, rfl⟩ := h0.form
 have HB0 := Lib.hid (Below.refl w.heap.size w)
 have HR0 := Lib.hid h0
 clear h0
 go_enter Tryd.func4, Tryd.ntmps4
 have H2 := Lib.hid (RDesign.keep HR0.out (w' := (w.alloc (.cells #[.slice Aa0_0 na0_0 ca0_0] 24))) (fun p hb => World.cell?_alloc_lt _ _ p (by have : _ < w.heap.size := hb; (try simp) <;> omega)))
 clear HR0
 have HB3 := Lib.hid (HB0.out.alloc (by have := HB0.out.size; (try simp) <;> omega) (.cells #[.slice Aa0_0 na0_0 ca0_0] 24))
 clear HB0
 have HX1 := Lib.hid (show Blk (w.alloc (.cells #[.slice Aa0_0 na0_0 ca0_0] 24)) (w.heap.size) 24 #[.slice Aa0_0 na0_0 ca0_0] from by have h := Blk.new (w) 24 #[.slice Aa0_0 na0_0 ca0_0]; simpa using h)
 have yHX1_0 := blkS1 HX1.out
 go_wp2_with fail
 refine (d_szDesign (1048576) (by omega) H2.out (fun b hb => by have : _ < w.heap.size := hb; (try simp) <;> omega)).mono ?_
 rintro e w1 ⟨rfl, hb1⟩
 obtain ⟨cz0, hcz0⟩ : ∃ zz, zz = sDesign d := ⟨_, rfl⟩
 rw [← hcz0]
 have zw1 := hb1.size
 try simp at zw1
 have H4 := Lib.hid (RDesign.keep H2.out (w' := w1) (fun p hb => hb1.cell (by have : _ < w.heap.size := hb; (try simp) <;> omega)))
 clear H2
 have H5 := Lib.hid (HX1.out.below hb1 HX1.out.lt)
 clear HX1
 have HB6 := Lib.hid (HB3.out.trans (hb1.mono (by have := HB3.out.size; (try simp) <;> omega)))
 clear HB3
 clear hb1
 by_cases bcz0 : cz0 ≤ 1048576
 rotate_left
 ·rw [leftD_no bcz0]
  clear hcz0
  go_wp2_with fail
  go_ret
  exact ⟨rfl, HB6.out⟩
 obtain ⟨lf0, hlf0⟩ : ∃ zz, zz = 1048576 - cz0 := ⟨_, rfl⟩
 rw [leftD_yes bcz0, ← hlf0]
 have HZ0 := Lib.hid (show sDesign d ≤ 1048576 by rw [← hcz0]; omega)
 have hllf0 : lf0 ≤ 1048576 := by omega
 clear hcz0 bcz0 hlf0
 clear yHX1_0
 have yH5_0 := blkS1 H5.out
 go_wp2_with fail
 refine (d_toDesign HZ0.out H4.out (fun b hb => by have : _ < w.heap.size := hb; (try simp) <;> omega)).mono ?_
 rintro e w2 ⟨vw2, rfl, hqw2, hb2⟩
 obtain ⟨Aw2_0, nw2_0, cw2_0, rfl⟩ := hqw2.r.form
 have HQw2 := Lib.hid (QDesign.mono hqw2 (S' := Iv (w1.heap.size) (w2.heap.size)) (fun b hb => by have := hb; simp [New] at this; exact ⟨by omega, this.2⟩))
 clear hqw2
 have zw2 := hb2.size
 try simp at zw2
 have H7 := Lib.hid (RDesign.keep H4.out (w' := w2) (fun p hb => hb2.cell (by have : _ < w.heap.size := hb; (try simp) <;> omega)))
 clear H4
 have H8 := Lib.hid (H5.out.below hb2 H5.out.lt)
 clear H5
 have HB9 := Lib.hid (HB6.out.trans (hb2.mono (by have := HB6.out.size; (try simp) <;> omega)))
 clear HB6
 clear hb2
 clear yH5_0
 go_wp2_with fail
 refine (s_FormatDesign HZ0.out HQw2.out.r (fun b hb => by have := hb; simp only [Iv] at this; (try simp) <;> omega)).mono ?_
 rintro e w3 ⟨rfl, hb3⟩
 obtain ⟨q0, hq0⟩ : ∃ zz, zz = (⟨(fdR d).toArray⟩ : ByteArray) := ⟨_, rfl⟩
 rw [← hq0]
 have HS0 := Lib.hid hq0
 clear hq0
 obtain ⟨q1, hq1⟩ : ∃ zz, zz = designB d := ⟨_, rfl⟩
 rw [← hq1]
 have HS1 := Lib.hid hq1
 clear hq1
 have zw3 := hb3.size
 try simp at zw3
 clear HQw2
 have H10 := Lib.hid (RDesign.keep H7.out (w' := w3) (fun p hb => hb3.cell (by have : _ < w.heap.size := hb; (try simp) <;> omega)))
 clear H7
 have H11 := Lib.hid (H8.out.below hb3 H8.out.lt)
 clear H8
 have HB12 := Lib.hid (HB9.out.trans (hb3.mono (by have := HB9.out.size; (try simp) <;> omega)))
 clear HB9
 clear hb3
 have yH11_0 := blkS1 H11.out
 go_wp2_with fail
 refine (d_toDesign HZ0.out H10.out (fun b hb => by have : _ < w.heap.size := hb; (try simp) <;> omega)).mono ?_
 rintro e w4 ⟨vw4, rfl, hqw4, hb4⟩
 obtain ⟨Aw4_0, nw4_0, cw4_0, rfl⟩ := hqw4.r.form
 have HQw4 := Lib.hid (QDesign.mono hqw4 (S' := Iv (w3.heap.size) (w4.heap.size)) (fun b hb => by have := hb; simp [New] at this; exact ⟨by omega, this.2⟩))
 clear hqw4
 have zw4 := hb4.size
 try simp at zw4
 have H13 := Lib.hid (RDesign.keep H10.out (w' := w4) (fun p hb => hb4.cell (by have : _ < w.heap.size := hb; (try simp) <;> omega)))
 clear H10
 have H14 := Lib.hid (H11.out.below hb4 H11.out.lt)
 clear H11
 have HB15 := Lib.hid (HB12.out.trans (hb4.mono (by have := HB12.out.size; (try simp) <;> omega)))
 clear HB12
 clear hb4
 have H17 := Lib.hid (RDesign.keep H13.out (w' := (w4.alloc (.cells #[.slice Aw4_0 nw4_0 cw4_0] 31))) (fun p hb => World.cell?_alloc_lt _ _ p (by have : _ < w.heap.size := hb; (try simp) <;> omega)))
 clear H13
 have H18 := Lib.hid (H14.out.alloc (.cells #[.slice Aw4_0 nw4_0 cw4_0] 31))
 clear H14
 have H19 := Lib.hid (QDesign.keep HQw4.out (w' := (w4.alloc (.cells #[.slice Aw4_0 nw4_0 cw4_0] 31))) (fun b hb => Below.heap_alloc _ _ b (by have := hb; simp only [Iv] at this; (try simp) <;> omega)))
 clear HQw4
 have HB20 := Lib.hid (HB15.out.alloc (by have := HB15.out.size; (try simp) <;> omega) (.cells #[.slice Aw4_0 nw4_0 cw4_0] 31))
 clear HB15
 have HX16 := Lib.hid (show Blk (w4.alloc (.cells #[.slice Aw4_0 nw4_0 cw4_0] 31)) (w4.heap.size) 31 #[.slice Aw4_0 nw4_0 cw4_0] from by have h := Blk.new (w4) 31 #[.slice Aw4_0 nw4_0 cw4_0]; simpa using h)
 clear yH11_0
 have yHX16_0 := blkS1 HX16.out
 go_wp2_with fail
 refine (i_FormatDesign HZ0.out H19.out.r (fun b hb => by have := hb; simp only [Iv] at this; (try simp) <;> omega) (hsg.below HB20.out)).mono ?_
 rintro e w5 ⟨rfl, hb5⟩
 rw [← HS0.out]
 rw [← HS1.out]
 have zw5 := hb5.size
 try simp at zw5
 have H21 := Lib.hid (RDesign.keep H17.out (w' := w5) (fun p hb => hb5.cell (by have : _ < w.heap.size := hb; (try simp) <;> omega)))
 clear H17
 have H22 := Lib.hid (H18.out.below hb5 H18.out.lt)
 clear H18
 have H23 := Lib.hid (QDesign.keep H19.out (w' := w5) (fun b hb => hb5.block b (by have := hb; simp only [Iv] at this; (try simp) <;> omega)))
 clear H19
 have H24 := Lib.hid (HX16.out.below hb5 HX16.out.lt)
 clear HX16
 have HB25 := Lib.hid (HB20.out.trans (hb5.mono (by have := HB20.out.size; (try simp) <;> omega)))
 clear HB20
 clear hb5
 clear yHX16_0
 go_wp2_with fail
 refine wp_region_lexC (by kernel_rfl) (by kernel_rfl) (fun x => Below w5.heap.size w5 x) ((Below.refl _ _).drew) (fun lexNE => ?_)
 have cH24_0 := bwS1 (B := w5.heap.size) H24.out H24.out.lt
 have cH22_0 := bwS1 (B := w5.heap.size) H22.out H22.out.lt
 have HL26 := Lib.hid ((Below.refl w5.heap.size w5).drew)
 have H27 := Lib.hid (RDesign.keep H21.out (w' := w5.drew) (fun p hb => rfl))
 clear H21
 have H28 := Lib.hid (H22.out.drew)
 clear H22
 have H29 := Lib.hid (QDesign.keep H23.out (w' := w5.drew) (fun b hb => rfl))
 clear H23
 have H30 := Lib.hid (H24.out.drew)
 clear H24
 have HB31 := Lib.hid (HB25.out.drew)
 clear HB25
 (repeat (first | (refine lex_r fun K hK => ?_; go_big_quiet_op; refine hK _ ?_; clear hK K) | (refine lex_k fun K hK => ?_; go_simp; refine hK _ ?_; clear hK K)))
 (refine lex_e fun K hK => ?_; go_big_op)
 refine (d_toDesign HZ0.out H27.out (fun b hb => by have : _ < w.heap.size := hb; (try simp) <;> omega)).mono ?_
 rintro e w6 ⟨vw6, rfl, hqw6, hb6⟩
 obtain ⟨Aw6_0, nw6_0, cw6_0, rfl⟩ := hqw6.r.form
 have HQw6 := Lib.hid (QDesign.mono hqw6 (S' := Iv (w5.heap.size) (w6.heap.size)) (fun b hb => by have := hb; simp [New] at this; exact ⟨by omega, this.2⟩))
 clear hqw6
 have zw6 := hb6.size
 try simp at zw6
 clear H27 H28 H30
 have H32 := Lib.hid (QDesign.keep H29.out (w' := w6) (fun b hb => hb6.block b (by have := hb; simp only [Iv] at this; (try simp) <;> omega)))
 clear H29
 have HB33 := Lib.hid (HB31.out.trans (hb6.mono (by have := HB31.out.size; (try simp) <;> omega)))
 clear HB31
 have HL34 := Lib.hid (HL26.out.trans (hb6.mono HL26.out.size))
 clear HL26
 refine hK _ _ (Cls.mk' HL34.out) ?_
 clear hK K hb6
 (repeat (first | (refine lex_r fun K hK => ?_; go_big_quiet_op; refine hK _ ?_; clear hK K) | (refine lex_k fun K hK => ?_; go_simp; refine hK _ ?_; clear hK K)))
 (refine lex_e fun K hK => ?_; go_big_op)
 refine (d_eqDesign HZ0.out H32.out.r HQw6.out.r (fun b hb => by have := hb; simp only [Iv] at this; (try simp) <;> omega) (fun b hb => by have := hb; simp only [Iv] at this; (try simp) <;> omega)).mono ?_
 rintro e w7 ⟨rfl, hb7⟩
 have zw7 := hb7.size
 try simp at zw7
 clear H32 HQw6
 have HB35 := Lib.hid (HB33.out.trans (hb7.mono (by have := HB33.out.size; (try simp) <;> omega)))
 clear HB33
 have HL36 := Lib.hid (HL34.out.trans (hb7.mono HL34.out.size))
 clear HL34
 refine hK _ _ (Cls.mk' HL36.out) ?_
 clear hK K hb7
 (repeat (first | (refine lex_r fun K hK => ?_; go_big_quiet_op; refine hK _ ?_; clear hK K) | (refine lex_k fun K hK => ?_; go_simp; refine hK _ ?_; clear hK K)))
 (refine lex_nil ?_)
 clear lexNE cH24_0 cH22_0
 go_wp2_with fail
 go_ret
 exact ⟨rfl, HB35.out⟩
set_option maxRecDepth 100000 in
theorem lifted_FnExactFormatDesign (os : Os) (started : os.Started) (H : Type) (enc : TypeId × Value → H) :
  ReturnsInHanded {} Tryd.checked os 4 .any (fun w args => (Rows.fnExactFormatDesignSpec.pre enc Tryd.prog Tryd.f4 Rows.fnExactFormatDesignRow.domain false w args ∧ laidMetH Tryd.prog signsLaid w) ∧ sizedMet enc Tryd.prog Tryd.f4 (OpenSpec.ofChange Rows.fnExactFormatDesignSpec) false w args) (Rows.fnExactFormatDesignSpec.post enc Tryd.prog Tryd.f4 false true false false) := by
 refine liftV (F := 4) (fn := Tryd.f4) (s := Rows.fnExactFormatDesignSpec) (conds := Rows.fnExactFormatDesignRow.domain) (by kernel_rfl) Tryd.func4 (by kernel_rfl) rfl (by kernel_rfl) (by kernel_rfl) ?_ ?_ os started H enc
  (ChangeSpec.witness_shaped (enc := enc) (C := Tryd.checked) (os := os) (X := fun w _ => laidMetH Tryd.prog signsLaid w) false (World.laidAll Tryd.prog os signsLaid) #[.agg #[.slice none 0 0]] 8 (World.laidAll_os _ _ _) (World.shaped_of_ZipB (by kernel_rfl) (by kernel_rfl)) (by kernel_rfl) (by kernel_rfl) (by kernel_rfl)
   (by rw [MakeChecks.laidMetH_plain _ _ _ (by kernel_rfl)]; exact laidMet_laidAll _ (by kernel_rfl) (by kernel_rfl)))
 ·intro H ds g hl
  rw [Tryd.params4] at hl
  match ds, hl with
  | [d0], _ => exact ⟨rfl, rfl, rfl⟩
 ·intro W base args H enc ds p hval hA hlt hsg
  rw [Tryd.params4] at hA hval
  obtain ⟨v0, vs0, e0, es0, p0, q0, hargs, rfl, rfl, h0, r0⟩ := trodAll_cons hA
  obtain ⟨rfl, rfl, rfl⟩ := trodAll_nil r0
  obtain rfl : args = #[v0] := by cases args; simp_all
  obtain ⟨x0, w0⟩ := op_Design (hval 0 24 v0 rfl rfl) h0 (fun x hx => hlt x (by simp [hx]))
  exact walk_FnExactFormatDesign v0 x0 W w0 hsg
theorem facts_FnExactFormatDesign : joinedFacts Tryd.pinned.checked.prog 4 Tryd.f4 Rows.fnExactFormatDesignSpec Rows.fnExactFormatDesignRow = true :=
 facts_ofV (P := Tryd.prog) (vs := [26]) mayE liftE makeE rfl rfl (by kernel_rfl) (by kernel_rfl) (by kernel_rfl) (by kernel_rfl) (by kernel_rfl) (by kernel_rfl) (by kernel_rfl) (by kernel_rfl) (by kernel_rfl) (by kernel_rfl) (by kernel_rfl) (by kernel_rfl) (by kernel_rfl) (by kernel_rfl) (by kernel_rfl) (by kernel_rfl) (by kernel_rfl) (by kernel_rfl) (by kernel_rfl) (by kernel_rfl) (by kernel_rfl) (by kernel_rfl) (by kernel_rfl) (by kernel_rfl) (by kernel_rfl) (by kernel_rfl) rfl rfl (by kernel_rfl) (by kernel_rfl) (by kernel_rfl)
theorem over_FnExactFormatDesign : Rows.fnExactFormatDesignRow.holds Tryd.pinned (OpenSpec.ofChange Rows.fnExactFormatDesignSpec) :=
 OpenClaim.holds_of_wide 4 Tryd.f4 rfl rfl rfl rfl rfl rfl rfl ⟨rfl, rfl, rfl, rfl, rfl⟩ rfl rfl rfl rfl rfl (by kernel_rfl) Tryd.func4 facts_FnExactFormatDesign
  (of_decide_eq_true (by kernel_rfl)) (by unfold Func.isWrapper; first | (rw [if_pos (by decide +kernel)]; kernel_rfl) | (rw [if_neg (by decide +kernel)]; exact ⟨rfl, rfl⟩))
  (fun os started H enc _ => lifted_FnExactFormatDesign os started H enc)
theorem FnExactFormatDesign_holds : Rows.FnExactFormatDesignCardSaid :=
 Claim7.holds_tied_plain_at .later [] [.data] true (true, Rows.fnExactFormatDesignCard.stood.harness.2) false over_FnExactFormatDesign (fun _ h => by cases h) (by kernel_rfl) (fun _ h => by cases h) fnExactFormatDesign_row_tie rfl ⟨rfl, rfl⟩ (by kernel_rfl) rfl
  (fun f fn hf hfn => by
   obtain rfl : f = 4 := Option.some.inj ((show Tryd.prog.funcNamed "loop.example/g03311/laws.FnExactFormatDesign" = some 4 by kernel_rfl).symm.trans hf) |>.symm
   obtain rfl : fn = Tryd.f4 := (Option.some.inj (Tryd.func4.symm.trans hfn)).symm
   exact ⟨by kernel_rfl, fun j t ht => by
    have hall : (Tryd.f4.params.toList.all fun u => !Tryd.prog.wantsStandIn u) = true := by kernel_rfl
    have hm : t ∈ Tryd.f4.params.toList := by rw [Array.mem_toList_iff]; exact Array.mem_of_getElem? ht
    exact (show Tryd.prog.wantsStandIn t = false by simpa using List.all_eq_true.1 hall t hm)⟩)
  (by kernel_rfl)
end Go.Proofs.YtlgbdpcobbbglaaDoor
