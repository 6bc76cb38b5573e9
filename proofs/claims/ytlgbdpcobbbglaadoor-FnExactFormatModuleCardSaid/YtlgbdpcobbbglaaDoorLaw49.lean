/- Law of a module's lines: for every design and number the program's FormatModule returns the reference's lines, in memory of its own. Conditions: none. -/
import Derived.Test.YtlgbdpcobbbglaaDoorFrame8
import Derived.Test.YtlgbdpcobbbglaaDoorFms
import Derived.Test.YtlgbdpcobbbglaaDoorGa
import Derived.Test.YtlgbdpcobbbglaaDoorFrameV
import Derived.Outline
namespace Go.Proofs.YtlgbdpcobbbglaaDoor
open Go.ChangeShapes Go.WideShapes Go.ChangeAt Go.RowKit

set_option maxRecDepth 100000 in
set_option maxHeartbeats 8000000 in
theorem walk_FnExactFormatModule (v0 : Value) (d : TDesign) (kk : Int) (w : World) (h0 : RDesign (w) (fun b => b < w.heap.size) (v0) d ∧ WfDesign d) (hsg : SignsAt w) :
  Calls Tryd.prog 3 #[v0, .int .i64 kk] w fun e w' => e = .returned (.bool true) ∧ Below w.heap.size w w' := by
 obtain ⟨h0, wf0⟩ := h0
 have WF0 := Lib.hid wf0
 clear wf0
 obtain ⟨Aa0_0, na0_0, ca0_0, rfl⟩ := h0.form
 have HB0 := Lib.hid (Below.refl w.heap.size w)
 have HR0 := Lib.hid h0
 clear h0
 go_enter Tryd.func3, Tryd.ntmps3
 have H2 := Lib.hid (RDesign.keep HR0.out (w' := (w.alloc (.cells #[.slice Aa0_0 na0_0 ca0_0] 24))) (fun p hb => World.cell?_alloc_lt _ _ p (by have : _ < w.heap.size := hb; (try simp) <;> omega)))
 clear HR0
 have HB3 := Lib.hid (HB0.out.alloc (by have := HB0.out.size; (try simp) <;> omega) (.cells #[.slice Aa0_0 na0_0 ca0_0] 24))
 clear HB0
 have HX1 := Lib.hid (show Blk (w.alloc (.cells #[.slice Aa0_0 na0_0 ca0_0] 24)) (w.heap.size) 24 #[.slice Aa0_0 na0_0 ca0_0] from by have h := Blk.new (w) 24 #[.slice Aa0_0 na0_0 ca0_0]; simpa using h)
 have yHX1_0 := blkS1 HX1.out
 go_wp2_with fail
 refine (d_szDesign (1048576) (by omega) H2.out (fun b hb => by have : _ < w.heap.size := hb; (try simp) <;> omega)).mono ?_
 rintro e w1 ⟨rfl, hb1⟩
 obtain ⟨cz0, hcz0⟩ : ∃ zz, zz = sDesign d := ⟨_, rfl⟩
 rw [← hcz0]
 have zw1 := hb1.size
 try simp at zw1
 have H4 := Lib.hid (RDesign.keep H2.out (w' := w1) (fun p hb => hb1.cell (by have : _ < w.heap.size := hb; (try simp) <;> omega)))
 clear H2
 have H5 := Lib.hid (HX1.out.below hb1 HX1.out.lt)
 clear HX1
 have HB6 := Lib.hid (HB3.out.trans (hb1.mono (by have := HB3.out.size; (try simp) <;> omega)))
 clear HB3
 clear hb1
 by_cases bcz0 : cz0 ≤ 1048576
 rotate_left
 ·rw [leftD_no bcz0]
  clear hcz0
  go_wp2_with fail
  go_ret
  exact ⟨rfl, HB6.out⟩
 obtain ⟨lf0, hlf0⟩ : ∃ zz, zz = 1048576 - cz0 := ⟨_, rfl⟩
 rw [leftD_yes bcz0, ← hlf0]
 have HZ0 := Lib.hid (show sDesign d ≤ 1048576 by rw [← hcz0]; omega)
 have hllf0 : lf0 ≤ 1048576 := by omega
 clear hcz0 bcz0 hlf0
 clear yHX1_0
 have yH5_0 := blkS1 H5.out
 go_wp2_with fail
 refine (d_toDesign HZ0.out H4.out (fun b hb => by have : _ < w.heap.size := hb; (try simp) <;> omega)).mono ?_
 rintro e w2 ⟨vw2, rfl, hqw2, hb2⟩
 obtain ⟨Aw2_0, nw2_0, cw2_0, rfl⟩ := hqw2.r.form
 have HQw2 := Lib.hid (QDesign.mono hqw2 (S' := Iv (w1.heap.size) (w2.heap.size)) (fun b hb => by have := hb; simp [New] at this; exact ⟨by omega, this.2⟩))
 clear hqw2
 have zw2 := hb2.size
 try simp at zw2
 have H7 := Lib.hid (RDesign.keep H4.out (w' := w2) (fun p hb => hb2.cell (by have : _ < w.heap.size := hb; (try simp) <;> omega)))
 clear H4
 have H8 := Lib.hid (H5.out.below hb2 H5.out.lt)
 clear H5
 have HB9 := Lib.hid (HB6.out.trans (hb2.mono (by have := HB6.out.size; (try simp) <;> omega)))
 clear HB6
 clear hb2
 clear yH5_0
 go_wp2_with fail
 refine (s_FormatModule kk HZ0.out HQw2.out.r (fun b hb => by have := hb; simp only [Iv] at this; (try simp) <;> omega)).mono ?_
 rintro e w3 ⟨vw3_0, rfl, hqw3_0, hb3⟩
 obtain ⟨Aw3_0, nw3_0, cw3_0, rfl⟩ := slv_of hqw3_0.rep
 have HQw3_0 := Lib.hid (Sep.mono hqw3_0 (S' := Iv (w2.heap.size) (w3.heap.size)) (fun b hb => by have := hb; simp [New] at this; exact ⟨by omega, this.2⟩))
 clear hqw3_0
 obtain ⟨q1, hq1⟩ : ∃ zz, zz = (fmtR d kk).2 := ⟨_, rfl⟩
 rw [← hq1]
 have HS1 := Lib.hid hq1
 clear hq1
 have zw3 := hb3.size
 try simp at zw3
 clear HQw2
 have H10 := Lib.hid (RDesign.keep H7.out (w' := w3) (fun p hb => hb3.cell (by have : _ < w.heap.size := hb; (try simp) <;> omega)))
 clear H7
 have H11 := Lib.hid (H8.out.below hb3 H8.out.lt)
 clear H8
 have HB12 := Lib.hid (HB9.out.trans (hb3.mono (by have := HB9.out.size; (try simp) <;> omega)))
 clear HB9
 clear hb3
 have yH11_0 := blkS1 H11.out
 go_wp2_with fail
 refine (d_toDesign HZ0.out H10.out (fun b hb => by have : _ < w.heap.size := hb; (try simp) <;> omega)).mono ?_
 rintro e w4 ⟨vw4, rfl, hqw4, hb4⟩
 obtain ⟨Aw4_0, nw4_0, cw4_0, rfl⟩ := hqw4.r.form
 have HQw4 := Lib.hid (QDesign.mono hqw4 (S' := Iv (w3.heap.size) (w4.heap.size)) (fun b hb => by have := hb; simp [New] at this; exact ⟨by omega, this.2⟩))
 clear hqw4
 have zw4 := hb4.size
 try simp at zw4
 have H13 := Lib.hid (RDesign.keep H10.out (w' := w4) (fun p hb => hb4.cell (by have : _ < w.heap.size := hb; (try simp) <;> omega)))
 clear H10
 have H14 := Lib.hid (H11.out.below hb4 H11.out.lt)
 clear H11
 have H15 := Lib.hid (Sep.keep HQw3_0.out (w' := w4) (fun b hb => hb4.block b (by have := hb; simp only [Iv] at this; (try simp) <;> omega)))
 clear HQw3_0
 have HB16 := Lib.hid (HB12.out.trans (hb4.mono (by have := HB12.out.size; (try simp) <;> omega)))
 clear HB12
 clear hb4
 have H18 := Lib.hid (RDesign.keep H13.out (w' := (w4.alloc (.cells #[.slice Aw4_0 nw4_0 cw4_0] 31))) (fun p hb => World.cell?_alloc_lt _ _ p (by have : _ < w.heap.size := hb; (try simp) <;> omega)))
 clear H13
 have H19 := Lib.hid (H14.out.alloc (.cells #[.slice Aw4_0 nw4_0 cw4_0] 31))
 clear H14
 have H20 := Lib.hid (Sep.keep H15.out (w' := (w4.alloc (.cells #[.slice Aw4_0 nw4_0 cw4_0] 31))) (fun b hb => Below.heap_alloc _ _ b (by have := hb; simp only [Iv] at this; (try simp) <;> omega)))
 clear H15
 have H21 := Lib.hid (QDesign.keep HQw4.out (w' := (w4.alloc (.cells #[.slice Aw4_0 nw4_0 cw4_0] 31))) (fun b hb => Below.heap_alloc _ _ b (by have := hb; simp only [Iv] at this; (try simp) <;> omega)))
 clear HQw4
 have HB22 := Lib.hid (HB16.out.alloc (by have := HB16.out.size; (try simp) <;> omega) (.cells #[.slice Aw4_0 nw4_0 cw4_0] 31))
 clear HB16
 have HX17 := Lib.hid (show Blk (w4.alloc (.cells #[.slice Aw4_0 nw4_0 cw4_0] 31)) (w4.heap.size) 31 #[.slice Aw4_0 nw4_0 cw4_0] from by have h := Blk.new (w4) 31 #[.slice Aw4_0 nw4_0 cw4_0]; simpa using h)
 clear yH11_0
 have yHX17_0 := blkS1 HX17.out
 go_wp2_with fail
 refine (i_FormatModule kk HZ0.out H21.out.r (fun b hb => by have := hb; simp only [Iv] at this; (try simp) <;> omega) (hsg.below HB22.out)).mono ?_
 rintro e w5 ⟨vw5_0, rfl, hqw5_0, hb5⟩
 obtain ⟨Aw5_0, nw5_0, cw5_0, rfl⟩ := slv_of hqw5_0.rep
 have HQw5_0 := Lib.hid (Sep.mono hqw5_0 (S' := Iv (w4.heap.size + 1) (w5.heap.size)) (fun b hb => by have := hb; simp [New] at this; exact ⟨by omega, this.2⟩))
 clear hqw5_0
 rw [← HS1.out]
 have zw5 := hb5.size
 try simp at zw5
 have H23 := Lib.hid (RDesign.keep H18.out (w' := w5) (fun p hb => hb5.cell (by have : _ < w.heap.size := hb; (try simp) <;> omega)))
 clear H18
 have H24 := Lib.hid (H19.out.below hb5 H19.out.lt)
 clear H19
 have H25 := Lib.hid (Sep.keep H20.out (w' := w5) (fun b hb => hb5.block b (by have := hb; simp only [Iv] at this; (try simp) <;> omega)))
 clear H20
 have H26 := Lib.hid (QDesign.keep H21.out (w' := w5) (fun b hb => hb5.block b (by have := hb; simp only [Iv] at this; (try simp) <;> omega)))
 clear H21
 have H27 := Lib.hid (HX17.out.below hb5 HX17.out.lt)
 clear HX17
 have HB28 := Lib.hid (HB22.out.trans (hb5.mono (by have := HB22.out.size; (try simp) <;> omega)))
 clear HB22
 clear hb5
 clear yHX17_0
 go_wp2_with fail
 refine (d_eqStringS (fmtR_sz d kk) HQw5_0.out.rep H25.out.rep (fun b hb => by have := hb; simp only [Iv] at this; (try simp) <;> omega) (fun b hb => by have := hb; simp only [Iv] at this; (try simp) <;> omega)).mono ?_
 rintro e w6 ⟨rfl, hb6⟩
 have zw6 := hb6.size
 try simp at zw6
 have H29 := Lib.hid (RDesign.keep H23.out (w' := w6) (fun p hb => hb6.cell (by have : _ < w.heap.size := hb; (try simp) <;> omega)))
 clear H23
 have H30 := Lib.hid (H24.out.below hb6 H24.out.lt)
 clear H24
 have H31 := Lib.hid (Sep.keep H25.out (w' := w6) (fun b hb => hb6.block b (by have := hb; simp only [Iv] at this; (try simp) <;> omega)))
 clear H25
 have H32 := Lib.hid (QDesign.keep H26.out (w' := w6) (fun b hb => hb6.block b (by have := hb; simp only [Iv] at this; (try simp) <;> omega)))
 clear H26
 have H33 := Lib.hid (H27.out.below hb6 H27.out.lt)
 clear H27
 have H34 := Lib.hid (Sep.keep HQw5_0.out (w' := w6) (fun b hb => hb6.block b (by have := hb; simp only [Iv] at this; (try simp) <;> omega)))
 clear HQw5_0
 have HB35 := Lib.hid (HB28.out.trans (hb6.mono (by have := HB28.out.size; (try simp) <;> omega)))
 clear HB28
 clear hb6
 go_wp2_with fail
 refine wp_region_lexC (by kernel_rfl) (by kernel_rfl) (fun x => Below w6.heap.size w6 x) ((Below.refl _ _).drew) (fun lexNE => ?_)
 have cH33_0 := bwS1 (B := w6.heap.size) H33.out H33.out.lt
 have cH30_0 := bwS1 (B := w6.heap.size) H30.out H30.out.lt
 have HL36 := Lib.hid ((Below.refl w6.heap.size w6).drew)
 have H37 := Lib.hid (RDesign.keep H29.out (w' := w6.drew) (fun p hb => rfl))
 clear H29
 have H38 := Lib.hid (H30.out.drew)
 clear H30
 have H39 := Lib.hid (Sep.keep H31.out (w' := w6.drew) (fun b hb => rfl))
 clear H31
 have H40 := Lib.hid (QDesign.keep H32.out (w' := w6.drew) (fun b hb => rfl))
 clear H32
 have H41 := Lib.hid (H33.out.drew)
 clear H33
 have H42 := Lib.hid (Sep.keep H34.out (w' := w6.drew) (fun b hb => rfl))
 clear H34
 have HB43 := Lib.hid (HB35.out.drew)
 clear HB35
 (repeat (first | (refine lex_r fun K hK => ?_; go_big_quiet_op; refine hK _ ?_; clear hK K) | (refine lex_k fun K hK => ?_; go_simp; refine hK _ ?_; clear hK K)))
 (refine lex_e fun K hK => ?_; go_big_op)
 refine (d_toDesign HZ0.out H37.out (fun b hb => by have : _ < w.heap.size := hb; (try simp) <;> omega)).mono ?_
 rintro e w7 ⟨vw7, rfl, hqw7, hb7⟩
 obtain ⟨Aw7_0, nw7_0, cw7_0, rfl⟩ := hqw7.r.form
 have HQw7 := Lib.hid (QDesign.mono hqw7 (S' := Iv (w6.heap.size) (w7.heap.size)) (fun b hb => by have := hb; simp [New] at this; exact ⟨by omega, this.2⟩))
 clear hqw7
 have zw7 := hb7.size
 try simp at zw7
 have H44 := Lib.hid (RDesign.keep H37.out (w' := w7) (fun p hb => hb7.cell (by have : _ < w.heap.size := hb; (try simp) <;> omega)))
 clear H37
 have H45 := Lib.hid (H38.out.below hb7 H38.out.lt)
 clear H38
 have H46 := Lib.hid (Sep.keep H39.out (w' := w7) (fun b hb => hb7.block b (by have := hb; simp only [Iv] at this; (try simp) <;> omega)))
 clear H39
 have H47 := Lib.hid (QDesign.keep H40.out (w' := w7) (fun b hb => hb7.block b (by have := hb; simp only [Iv] at this; (try simp) <;> omega)))
 clear H40
 have H48 := Lib.hid (H41.out.below hb7 H41.out.lt)
 clear H41
 have H49 := Lib.hid (Sep.keep H42.out (w' := w7) (fun b hb => hb7.block b (by have := hb; simp only [Iv] at this; (try simp) <;> omega)))
 clear H42
 have HB50 := Lib.hid (HB43.out.trans (hb7.mono (by have := HB43.out.size; (try simp) <;> omega)))
 clear HB43
 have HL51 := Lib.hid (HL36.out.trans (hb7.mono HL36.out.size))
 clear HL36
 refine hK _ _ (Cls.mk' HL51.out) ?_
 clear hK K hb7
 (repeat (first | (refine lex_r fun K hK => ?_; go_big_quiet_op; refine hK _ ?_; clear hK K) | (refine lex_k fun K hK => ?_; go_simp; refine hK _ ?_; clear hK K)))
 (refine lex_e fun K hK => ?_; go_big_op)
 refine (d_eqDesign HZ0.out H47.out.r HQw7.out.r (fun b hb => by have := hb; simp only [Iv] at this; (try simp) <;> omega) (fun b hb => by have := hb; simp only [Iv] at this; (try simp) <;> omega)).mono ?_
 rintro e w8 ⟨rfl, hb8⟩
 have zw8 := hb8.size
 try simp at zw8
 clear HQw7
 have H52 := Lib.hid (RDesign.keep H44.out (w' := w8) (fun p hb => hb8.cell (by have : _ < w.heap.size := hb; (try simp) <;> omega)))
 clear H44
 have H53 := Lib.hid (H45.out.below hb8 H45.out.lt)
 clear H45
 have H54 := Lib.hid (Sep.keep H46.out (w' := w8) (fun b hb => hb8.block b (by have := hb; simp only [Iv] at this; (try simp) <;> omega)))
 clear H46
 have H55 := Lib.hid (QDesign.keep H47.out (w' := w8) (fun b hb => hb8.block b (by have := hb; simp only [Iv] at this; (try simp) <;> omega)))
 clear H47
 have H56 := Lib.hid (H48.out.below hb8 H48.out.lt)
 clear H48
 have H57 := Lib.hid (Sep.keep H49.out (w' := w8) (fun b hb => hb8.block b (by have := hb; simp only [Iv] at this; (try simp) <;> omega)))
 clear H49
 have HB58 := Lib.hid (HB50.out.trans (hb8.mono (by have := HB50.out.size; (try simp) <;> omega)))
 clear HB50
 have HL59 := Lib.hid (HL51.out.trans (hb8.mono HL51.out.size))
 clear HL51
 refine hK _ _ (Cls.mk' HL59.out) ?_
 clear hK K hb8
 (repeat (first | (refine lex_r fun K hK => ?_; go_big_quiet_op; refine hK _ ?_; clear hK K) | (refine lex_k fun K hK => ?_; go_simp; refine hK _ ?_; clear hK K)))
 (refine lex_nil ?_)
 clear lexNE cH33_0 cH30_0
 have yH56_0 := blkS1 H56.out
 go_wp2_with fail
 have hmb60 : nDesign d ≤ 8388608 := by have h1 := nDesign_le d; have h2 : sDesign d ≤ 1048576 := HZ0.out; omega
 refine (d_markDesign (1) (by omega) H55.out (fun b hb => by have := hb; simp only [Iv] at this; (try simp) <;> omega)).mono ?_
 rintro e w9 ⟨rfl, hqw9, hb9⟩
 obtain ⟨mk61, hmk61⟩ : ∃ zz, zz = 1 + nDesign d := ⟨_, rfl⟩
 rw [← hmk61]
 have hmk61b : mk61 ≤ 8388609 := by omega
 have HMmk61 := Lib.hid hmk61
 clear hmk61 hmb60
 clear H55
 have zw9 := hb9.size
 try simp at zw9
 clear H56
 have H62 := Lib.hid (RDesign.keep H52.out (w' := w9) (fun p hb => hb9.cell (by have : _ < w.heap.size := hb; (try simp) <;> omega) (fun hc => by have := hb; simp only [Iv] at hc; omega)))
 clear H52
 have H63 := Lib.hid (hb9.blk H53.out (fun hc => by simp only [Iv] at hc; (try simp at hc) <;> omega))
 clear H53
 have H64 := Lib.hid (Sep.keep H54.out (w' := w9) (fun b hb => hb9.block b (by have := hb; simp only [Iv] at this; (try simp) <;> omega) (fun hc => by have := hb; simp only [Iv] at this; simp only [Iv] at hc; omega)))
 clear H54
 have H65 := Lib.hid (Sep.keep H57.out (w' := w9) (fun b hb => hb9.block b (by have := hb; simp only [Iv] at this; (try simp) <;> omega) (fun hc => by have := hb; simp only [Iv] at this; simp only [Iv] at hc; omega)))
 clear H57
 have HB66 := Lib.hid (HB58.out.trans (hb9.below (by have := HB58.out.size; (try simp) <;> omega) (fun b hb => by simp only [Iv] at hb; omega)))
 clear HB58
 clear hb9
 have HQw9 := Lib.hid hqw9
 clear hqw9
 clear yH56_0
 go_wp2_with fail
 refine (d_eqStringS (fmtR_sz d kk) H65.out.rep H64.out.rep (fun b hb => by have := hb; simp only [Iv] at this; (try simp) <;> omega) (fun b hb => by have := hb; simp only [Iv] at this; (try simp) <;> omega)).mono ?_
 rintro e w10 ⟨rfl, hb10⟩
 have zw10 := hb10.size
 try simp at zw10
 clear HQw9
 have H67 := Lib.hid (RDesign.keep H62.out (w' := w10) (fun p hb => hb10.cell (by have : _ < w.heap.size := hb; (try simp) <;> omega)))
 clear H62
 have H68 := Lib.hid (H63.out.below hb10 H63.out.lt)
 clear H63
 have H69 := Lib.hid (Sep.keep H64.out (w' := w10) (fun b hb => hb10.block b (by have := hb; simp only [Iv] at this; (try simp) <;> omega)))
 clear H64
 have H70 := Lib.hid (Sep.keep H65.out (w' := w10) (fun b hb => hb10.block b (by have := hb; simp only [Iv] at this; (try simp) <;> omega)))
 clear H65
 have HB71 := Lib.hid (HB66.out.trans (hb10.mono (by have := HB66.out.size; (try simp) <;> omega)))
 clear HB66
 clear hb10
 go_wp2_with fail
 have hmb72 : nuL nString ((fmtR d kk).1) ≤ 8388608 := by have h1 := nuL_String_le ((fmtR d kk).1); have h2 : szL sString ((fmtR d kk).1) ≤ 1048576 := fmtR_sz d kk; omega
 refine (d_markStringS (1) (by omega) (by omega) H70.out (fun b hb => by have := hb; simp only [Iv] at this; (try simp) <;> omega)).mono ?_
 rintro e w11 ⟨rfl, hqw11, hb11⟩
 obtain ⟨mk73, hmk73⟩ : ∃ zz, zz = 1 + nuL nString ((fmtR d kk).1) := ⟨_, rfl⟩
 rw [← hmk73]
 have hmk73b : mk73 ≤ 16777217 := by omega
 have HMmk73 := Lib.hid hmk73
 clear hmk73 hmb72
 clear H70
 have zw11 := hb11.size
 try simp at zw11
 have H74 := Lib.hid (RDesign.keep H67.out (w' := w11) (fun p hb => hb11.cell (by have : _ < w.heap.size := hb; (try simp) <;> omega) (fun hc => by have := hb; simp only [Iv] at hc; omega)))
 clear H67
 have H75 := Lib.hid (hb11.blk H68.out (fun hc => by simp only [Iv] at hc; (try simp at hc) <;> omega))
 clear H68
 have H76 := Lib.hid (Sep.keep H69.out (w' := w11) (fun b hb => hb11.block b (by have := hb; simp only [Iv] at this; (try simp) <;> omega) (fun hc => by have := hb; simp only [Iv] at this; simp only [Iv] at hc; omega)))
 clear H69
 have HB77 := Lib.hid (HB71.out.trans (hb11.below (by have := HB71.out.size; (try simp) <;> omega) (fun b hb => by simp only [Iv] at hb; omega)))
 clear HB71
 clear hb11
 have HQw11 := Lib.hid hqw11
 clear hqw11
 go_wp2_with fail
 have hmb78 : 1 + nuL nString ((fmtR d kk).1) ≤ 1099511627776 := by rw [← HMmk73.out]; omega
 refine (d_heldStringS (1) (by omega) (by omega) HQw11.out.rep (fun b hb => by have := hb; simp only [Iv] at this; (try simp) <;> omega)).mono ?_
 rintro e w12 ⟨rfl, hb12⟩
 rw [← HMmk73.out]
 clear hmb78
 have zw12 := hb12.size
 try simp at zw12
 have H79 := Lib.hid (RDesign.keep H74.out (w' := w12) (fun p hb => hb12.cell (by have : _ < w.heap.size := hb; (try simp) <;> omega)))
 clear H74
 have H80 := Lib.hid (H75.out.below hb12 H75.out.lt)
 clear H75
 have H81 := Lib.hid (Sep.keep H76.out (w' := w12) (fun b hb => hb12.block b (by have := hb; simp only [Iv] at this; (try simp) <;> omega)))
 clear H76
 have H82 := Lib.hid (Sep.keep HQw11.out (w' := w12) (fun b hb => hb12.block b (by have := hb; simp only [Iv] at this; (try simp) <;> omega)))
 clear HQw11
 have HB83 := Lib.hid (HB77.out.trans (hb12.mono (by have := HB77.out.size; (try simp) <;> omega)))
 clear HB77
 clear hb12
 have yH80_0 := blkS1 H80.out
 go_wp2_with fail
 refine (d_toDesign HZ0.out H79.out (fun b hb => by have : _ < w.heap.size := hb; (try simp) <;> omega)).mono ?_
 rintro e w13 ⟨vw13, rfl, hqw13, hb13⟩
 obtain ⟨Aw13_0, nw13_0, cw13_0, rfl⟩ := hqw13.r.form
 have HQw13 := Lib.hid (QDesign.mono hqw13 (S' := Iv (w12.heap.size) (w13.heap.size)) (fun b hb => by have := hb; simp [New] at this; exact ⟨by omega, this.2⟩))
 clear hqw13
 have zw13 := hb13.size
 try simp at zw13
 clear H79 H80
 have H84 := Lib.hid (Sep.keep H81.out (w' := w13) (fun b hb => hb13.block b (by have := hb; simp only [Iv] at this; (try simp) <;> omega)))
 clear H81
 have H85 := Lib.hid (Sep.keep H82.out (w' := w13) (fun b hb => hb13.block b (by have := hb; simp only [Iv] at this; (try simp) <;> omega)))
 clear H82
 have HB86 := Lib.hid (HB83.out.trans (hb13.mono (by have := HB83.out.size; (try simp) <;> omega)))
 clear HB83
 clear hb13
 clear yH80_0
 go_wp2_with fail
 refine (i_FormatModule kk HZ0.out HQw13.out.r (fun b hb => by have := hb; simp only [Iv] at this; (try simp) <;> omega) (hsg.below HB86.out)).mono ?_
 rintro e w14 ⟨vw14_0, rfl, hqw14_0, hb14⟩
 obtain ⟨Aw14_0, nw14_0, cw14_0, rfl⟩ := slv_of hqw14_0.rep
 have HQw14_0 := Lib.hid (Sep.mono hqw14_0 (S' := Iv (w13.heap.size) (w14.heap.size)) (fun b hb => by have := hb; simp [New] at this; exact ⟨by omega, this.2⟩))
 clear hqw14_0
 rw [← HS1.out]
 have zw14 := hb14.size
 try simp at zw14
 clear HQw13
 have H87 := Lib.hid (Sep.keep H84.out (w' := w14) (fun b hb => hb14.block b (by have := hb; simp only [Iv] at this; (try simp) <;> omega)))
 clear H84
 have H88 := Lib.hid (Sep.keep H85.out (w' := w14) (fun b hb => hb14.block b (by have := hb; simp only [Iv] at this; (try simp) <;> omega)))
 clear H85
 have HB89 := Lib.hid (HB86.out.trans (hb14.mono (by have := HB86.out.size; (try simp) <;> omega)))
 clear HB86
 clear hb14
 go_wp2_with fail
 refine (d_eqStringS (fmtR_sz d kk) HQw14_0.out.rep H87.out.rep (fun b hb => by have := hb; simp only [Iv] at this; (try simp) <;> omega) (fun b hb => by have := hb; simp only [Iv] at this; (try simp) <;> omega)).mono ?_
 rintro e w15 ⟨rfl, hb15⟩
 have zw15 := hb15.size
 try simp at zw15
 clear H87 HQw14_0
 have H90 := Lib.hid (Sep.keep H88.out (w' := w15) (fun b hb => hb15.block b (by have := hb; simp only [Iv] at this; (try simp) <;> omega)))
 clear H88
 have HB91 := Lib.hid (HB89.out.trans (hb15.mono (by have := HB89.out.size; (try simp) <;> omega)))
 clear HB89
 clear hb15
 go_wp2_with fail
 have hmb92 : 1 + nuL nString ((fmtR d kk).1) ≤ 1099511627776 := by rw [← HMmk73.out]; omega
 refine (d_heldStringS (1) (by omega) (by omega) H90.out.rep (fun b hb => by have := hb; simp only [Iv] at this; (try simp) <;> omega)).mono ?_
 rintro e w16 ⟨rfl, hb16⟩
 rw [← HMmk73.out]
 clear hmb92
 have zw16 := hb16.size
 try simp at zw16
 clear H90
 have HB93 := Lib.hid (HB91.out.trans (hb16.mono (by have := HB91.out.size; (try simp) <;> omega)))
 clear HB91
 clear hb16
 go_wp2_with fail
 go_ret
 exact ⟨rfl, HB93.out⟩
set_option maxRecDepth 100000 in
theorem lifted_FnExactFormatModule (os : Os) (started : os.Started) (H : Type) (enc : TypeId × Value → H) :
  ReturnsInHanded {} Tryd.checked os 3 .any (fun w args => (Rows.fnExactFormatModuleSpec.pre enc Tryd.prog Tryd.f3 Rows.fnExactFormatModuleRow.domain false w args ∧ laidMetH Tryd.prog signsLaid w) ∧ sizedMet enc Tryd.prog Tryd.f3 (OpenSpec.ofChange Rows.fnExactFormatModuleSpec) false w args) (Rows.fnExactFormatModuleSpec.post enc Tryd.prog Tryd.f3 false true false false) := by
 refine liftV (F := 3) (fn := Tryd.f3) (s := Rows.fnExactFormatModuleSpec) (conds := Rows.fnExactFormatModuleRow.domain) (by kernel_rfl) Tryd.func3 (by kernel_rfl) rfl (by kernel_rfl) (by kernel_rfl) ?_ ?_ os started H enc
  (ChangeSpec.witness_shaped (enc := enc) (C := Tryd.checked) (os := os) (X := fun w _ => laidMetH Tryd.prog signsLaid w) false (World.laidAll Tryd.prog os signsLaid) #[.agg #[.slice none 0 0], .int .i64 0] 8 (World.laidAll_os _ _ _) (World.shaped_of_ZipB (by kernel_rfl) (by kernel_rfl)) (by kernel_rfl) (by kernel_rfl) (by kernel_rfl)
   (by rw [MakeChecks.laidMetH_plain _ _ _ (by kernel_rfl)]; exact laidMet_laidAll _ (by kernel_rfl) (by kernel_rfl)))
 ·intro H ds g hl
  rw [Tryd.params3] at hl
  match ds, hl with
  | [d0, d1], _ => exact ⟨rfl, rfl, rfl⟩
 ·intro W base args H enc ds p hval hA hlt hsg
  rw [Tryd.params3] at hA hval
  obtain ⟨v0, vs0, e0, es0, p0, q0, hargs, rfl, rfl, h0, r0⟩ := trodAll_cons hA
  obtain ⟨v1, vs1, e1, es1, p1, q1, rfl, rfl, rfl, h1, r1⟩ := trodAll_cons r0
  obtain ⟨rfl, rfl, rfl⟩ := trodAll_nil r1
  obtain rfl : args = #[v0, v1] := by cases args; simp_all
  obtain ⟨x0, w0⟩ := op_Design (hval 0 24 v0 rfl rfl) h0 (fun x hx => hlt x (by simp [hx]))
  obtain ⟨kk, rfl, w1⟩ := op_int Tryd.underlying3 (hval 1 3 v1 rfl rfl) h1
  exact walk_FnExactFormatModule v0 x0 kk W w0 hsg
theorem facts_FnExactFormatModule : joinedFacts Tryd.pinned.checked.prog 3 Tryd.f3 Rows.fnExactFormatModuleSpec Rows.fnExactFormatModuleRow = true :=
 facts_ofV (P := Tryd.prog) (vs := [26]) mayE liftE makeE rfl rfl (by kernel_rfl) (by kernel_rfl) (by kernel_rfl) (by kernel_rfl) (by kernel_rfl) (by kernel_rfl) (by kernel_rfl) (by kernel_rfl) (by kernel_rfl) (by kernel_rfl) (by kernel_rfl) (by kernel_rfl) (by kernel_rfl) (by kernel_rfl) (by kernel_rfl) (by kernel_rfl) (by kernel_rfl) (by kernel_rfl) (by kernel_rfl) (by kernel_rfl) (by kernel_rfl) (by kernel_rfl) (by kernel_rfl) (by kernel_rfl) (by kernel_rfl) (by kernel_rfl) rfl rfl (by kernel_rfl) (by kernel_rfl) (by kernel_rfl)
theorem over_FnExactFormatModule : Rows.fnExactFormatModuleRow.holds Tryd.pinned (OpenSpec.ofChange Rows.fnExactFormatModuleSpec) :=
 OpenClaim.holds_of_wide 3 Tryd.f3 rfl rfl rfl rfl rfl rfl rfl ⟨rfl, rfl, rfl, rfl, rfl⟩ rfl rfl rfl rfl rfl (by kernel_rfl) Tryd.func3 facts_FnExactFormatModule
  (of_decide_eq_true (by kernel_rfl)) (by unfold Func.isWrapper; first | (rw [if_pos (by decide +kernel)]; kernel_rfl) | (rw [if_neg (by decide +kernel)]; exact ⟨rfl, rfl⟩))
  (fun os started H enc _ => lifted_FnExactFormatModule os started H enc)
theorem FnExactFormatModule_holds : Rows.FnExactFormatModuleCardSaid :=
 Claim7.holds_tied_plain_at .later [] [.data] true (true, Rows.fnExactFormatModuleCard.stood.harness.2) false over_FnExactFormatModule (fun _ h => by cases h) (by kernel_rfl) (fun _ h => by cases h) fnExactFormatModule_row_tie rfl ⟨rfl, rfl⟩ (by kernel_rfl) rfl
  (fun f fn hf hfn => by
   obtain rfl : f = 3 := Option.some.inj ((show Tryd.prog.funcNamed "loop.example/g03311/laws.FnExactFormatModule" = some 3 by kernel_rfl).symm.trans hf) |>.symm
   obtain rfl : fn = Tryd.f3 := (Option.some.inj (Tryd.func3.symm.trans hfn)).symm
   exact ⟨by kernel_rfl, fun j t ht => by
    have hall : (Tryd.f3.params.toList.all fun u => !Tryd.prog.wantsStandIn u) = true := by kernel_rfl
    have hm : t ∈ Tryd.f3.params.toList := by rw [Array.mem_toList_iff]; exact Array.mem_of_getElem? ht
    exact (show Tryd.prog.wantsStandIn t = false by simpa using List.all_eq_true.1 hall t hm)⟩)
  (by kernel_rfl)
end Go.Proofs.YtlgbdpcobbbglaaDoor
