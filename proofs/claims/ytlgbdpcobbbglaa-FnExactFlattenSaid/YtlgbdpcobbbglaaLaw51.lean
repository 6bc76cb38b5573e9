/- Law of the flattening: for every design and parameter the program's Flatten returns the reference's flat module, in memory of its own. Conditions: none. -/
import Derived.Test.YtlgbdpcobbbglaaFrame8
import Derived.Test.YtlgbdpcobbbglaaFlf
import Derived.Test.YtlgbdpcobbbglaaGa
import Derived.Outline
namespace Go.Proofs.Ytlgbdpcobbbglaa
open Go.ChangeShapes Go.WideShapes Go.ChangeAt Go.RowKit

set_option maxRecDepth 100000 in
set_option maxHeartbeats 8000000 in
theorem walk_FnExactFlatten (v0 : Value) (d : TDesign) (pm : Int) (w : World) (h0 : RDesign (w) (fun b => b < w.heap.size) (v0) d ∧ WfDesign d) :
  Calls Try.prog 3 #[v0, .int .i64 pm] w fun e w' => e = .returned (.bool true) ∧ Below w.heap.size w w' := by
 obtain ⟨h0, wf0⟩ := h0
 have WF0 := Lib.hid wf0
 clear wf0
 obtain ⟨Aa0_0, na0_0, ca0_0, rfl⟩ := h0.form
 have HB0 := Lib.hid (Below.refl w.heap.size w)
 have HR0 := Lib.hid h0
 clear h0
 go_enter Try.func3, Try.ntmps3
 have H2 := Lib.hid (RDesign.keep HR0.out (w' := (w.alloc (.cells #[.slice Aa0_0 na0_0 ca0_0] 24))) (fun p hb => World.cell?_alloc_lt _ _ p (by have : _ < w.heap.size := hb; (try simp) <;> omega)))
 clear HR0
 have HB3 := Lib.hid (HB0.out.alloc (by have := HB0.out.size; (try simp) <;> omega) (.cells #[.slice Aa0_0 na0_0 ca0_0] 24))
 clear HB0
 have HX1 := Lib.hid (show Blk (w.alloc (.cells #[.slice Aa0_0 na0_0 ca0_0] 24)) (w.heap.size) 24 #[.slice Aa0_0 na0_0 ca0_0] from by have h := Blk.new (w) 24 #[.slice Aa0_0 na0_0 ca0_0]; simpa using h)
 have yHX1_0 := blkS1 HX1.out
 go_wp2_with fail
 refine (d_szDesign (1048576) (by omega) H2.out (fun b hb => by have : _ < w.heap.size := hb; (try simp) <;> omega)).mono ?_
 rintro e w1 ⟨rfl, hb1⟩
 obtain ⟨cz0, hcz0⟩ : ∃ zz, zz = sDesign d := ⟨_, rfl⟩
 rw [← hcz0]
 have zw1 := hb1.size
 try simp at zw1
 have H4 := Lib.hid (RDesign.keep H2.out (w' := w1) (fun p hb => hb1.cell (by have : _ < w.heap.size := hb; (try simp) <;> omega)))
 clear H2
 have H5 := Lib.hid (HX1.out.below hb1 HX1.out.lt)
 clear HX1
 have HB6 := Lib.hid (HB3.out.trans (hb1.mono (by have := HB3.out.size; (try simp) <;> omega)))
 clear HB3
 clear hb1
 by_cases bcz0 : cz0 ≤ 1048576
 rotate_left
 ·rw [leftD_no bcz0]
  clear hcz0
  go_wp2_with fail
  go_ret
  exact ⟨rfl, HB6.out⟩
 obtain ⟨lf0, hlf0⟩ : ∃ zz, zz = 1048576 - cz0 := ⟨_, rfl⟩
 rw [leftD_yes bcz0, ← hlf0]
 have HZ0 := Lib.hid (show sDesign d ≤ 1048576 by rw [← hcz0]; omega)
 have hllf0 : lf0 ≤ 1048576 := by omega
 clear hcz0 bcz0 hlf0
 clear yHX1_0
 have yH5_0 := blkS1 H5.out
 go_wp2_with fail
 refine (d_toDesign HZ0.out H4.out (fun b hb => by have : _ < w.heap.size := hb; (try simp) <;> omega)).mono ?_
 rintro e w2 ⟨vw2, rfl, hqw2, hb2⟩
 obtain ⟨Aw2_0, nw2_0, cw2_0, rfl⟩ := hqw2.r.form
 have HQw2 := Lib.hid (QDesign.mono hqw2 (S' := Iv (w1.heap.size) (w2.heap.size)) (fun b hb => by have := hb; simp [New] at this; exact ⟨by omega, this.2⟩))
 clear hqw2
 have zw2 := hb2.size
 try simp at zw2
 have H7 := Lib.hid (RDesign.keep H4.out (w' := w2) (fun p hb => hb2.cell (by have : _ < w.heap.size := hb; (try simp) <;> omega)))
 clear H4
 have H8 := Lib.hid (H5.out.below hb2 H5.out.lt)
 clear H5
 have HB9 := Lib.hid (HB6.out.trans (hb2.mono (by have := HB6.out.size; (try simp) <;> omega)))
 clear HB6
 clear hb2
 clear yH5_0
 go_wp2_with fail
 refine (s_Flatten pm HZ0.out HQw2.out.r (fun b hb => by have := hb; simp only [Iv] at this; (try simp) <;> omega)).mono ?_
 rintro e w3 ⟨vw3_0, rfl, hqw3_0, hb3⟩
 obtain ⟨Aw3_0_0, nw3_0_0, cw3_0_0, Aw3_0_1, nw3_0_1, cw3_0_1, Aw3_0_2, nw3_0_2, cw3_0_2, Aw3_0_3, nw3_0_3, cw3_0_3, rfl⟩ := hqw3_0.r.form
 have HQw3_0 := Lib.hid (QModule.mono hqw3_0 (S' := Iv (w2.heap.size) (w3.heap.size)) (fun b hb => by have := hb; simp [New] at this; exact ⟨by omega, this.2⟩))
 clear hqw3_0
 obtain ⟨q1, hq1⟩ : ∃ zz, zz = flnO d pm := ⟨_, rfl⟩
 rw [← hq1]
 have HS1 := Lib.hid hq1
 clear hq1
 have zw3 := hb3.size
 try simp at zw3
 clear HQw2
 have H10 := Lib.hid (RDesign.keep H7.out (w' := w3) (fun p hb => hb3.cell (by have : _ < w.heap.size := hb; (try simp) <;> omega)))
 clear H7
 have H11 := Lib.hid (H8.out.below hb3 H8.out.lt)
 clear H8
 have HB12 := Lib.hid (HB9.out.trans (hb3.mono (by have := HB9.out.size; (try simp) <;> omega)))
 clear HB9
 clear hb3
 have H14 := Lib.hid (RDesign.keep H10.out (w' := (w3.alloc (.cells #[.slice Aw3_0_0 nw3_0_0 cw3_0_0, .slice Aw3_0_1 nw3_0_1 cw3_0_1, .slice Aw3_0_2 nw3_0_2 cw3_0_2, .slice Aw3_0_3 nw3_0_3 cw3_0_3] 31))) (fun p hb => World.cell?_alloc_lt _ _ p (by have : _ < w.heap.size := hb; (try simp) <;> omega)))
 clear H10
 have H15 := Lib.hid (H11.out.alloc (.cells #[.slice Aw3_0_0 nw3_0_0 cw3_0_0, .slice Aw3_0_1 nw3_0_1 cw3_0_1, .slice Aw3_0_2 nw3_0_2 cw3_0_2, .slice Aw3_0_3 nw3_0_3 cw3_0_3] 31))
 clear H11
 have H16 := Lib.hid (QModule.keep HQw3_0.out (w' := (w3.alloc (.cells #[.slice Aw3_0_0 nw3_0_0 cw3_0_0, .slice Aw3_0_1 nw3_0_1 cw3_0_1, .slice Aw3_0_2 nw3_0_2 cw3_0_2, .slice Aw3_0_3 nw3_0_3 cw3_0_3] 31))) (fun b hb => Below.heap_alloc _ _ b (by have := hb; simp only [Iv] at this; (try simp) <;> omega)))
 clear HQw3_0
 have HB17 := Lib.hid (HB12.out.alloc (by have := HB12.out.size; (try simp) <;> omega) (.cells #[.slice Aw3_0_0 nw3_0_0 cw3_0_0, .slice Aw3_0_1 nw3_0_1 cw3_0_1, .slice Aw3_0_2 nw3_0_2 cw3_0_2, .slice Aw3_0_3 nw3_0_3 cw3_0_3] 31))
 clear HB12
 have HX13 := Lib.hid (show Blk (w3.alloc (.cells #[.slice Aw3_0_0 nw3_0_0 cw3_0_0, .slice Aw3_0_1 nw3_0_1 cw3_0_1, .slice Aw3_0_2 nw3_0_2 cw3_0_2, .slice Aw3_0_3 nw3_0_3 cw3_0_3] 31)) (w3.heap.size) 31 #[.slice Aw3_0_0 nw3_0_0 cw3_0_0, .slice Aw3_0_1 nw3_0_1 cw3_0_1, .slice Aw3_0_2 nw3_0_2 cw3_0_2, .slice Aw3_0_3 nw3_0_3 cw3_0_3] from by have h := Blk.new (w3) 31 #[.slice Aw3_0_0 nw3_0_0 cw3_0_0, .slice Aw3_0_1 nw3_0_1 cw3_0_1, .slice Aw3_0_2 nw3_0_2 cw3_0_2, .slice Aw3_0_3 nw3_0_3 cw3_0_3]; simpa using h)
 have yH15_0 := blkS1 H15.out
 go_wp2_with fail
 refine (d_toDesign HZ0.out H14.out (fun b hb => by have : _ < w.heap.size := hb; (try simp) <;> omega)).mono ?_
 rintro e w4 ⟨vw4, rfl, hqw4, hb4⟩
 obtain ⟨Aw4_0, nw4_0, cw4_0, rfl⟩ := hqw4.r.form
 have HQw4 := Lib.hid (QDesign.mono hqw4 (S' := Iv (w3.heap.size + 1) (w4.heap.size)) (fun b hb => by have := hb; simp [New] at this; exact ⟨by omega, this.2⟩))
 clear hqw4
 have zw4 := hb4.size
 try simp at zw4
 have H18 := Lib.hid (RDesign.keep H14.out (w' := w4) (fun p hb => hb4.cell (by have : _ < w.heap.size := hb; (try simp) <;> omega)))
 clear H14
 have H19 := Lib.hid (H15.out.below hb4 H15.out.lt)
 clear H15
 have H20 := Lib.hid (QModule.keep H16.out (w' := w4) (fun b hb => hb4.block b (by have := hb; simp only [Iv] at this; (try simp) <;> omega)))
 clear H16
 have H21 := Lib.hid (HX13.out.below hb4 HX13.out.lt)
 clear HX13
 have HB22 := Lib.hid (HB17.out.trans (hb4.mono (by have := HB17.out.size; (try simp) <;> omega)))
 clear HB17
 clear hb4
 have H24 := Lib.hid (RDesign.keep H18.out (w' := (w4.alloc (.cells #[.slice Aw4_0 nw4_0 cw4_0] 36))) (fun p hb => World.cell?_alloc_lt _ _ p (by have : _ < w.heap.size := hb; (try simp) <;> omega)))
 clear H18
 have H25 := Lib.hid (H19.out.alloc (.cells #[.slice Aw4_0 nw4_0 cw4_0] 36))
 clear H19
 have H26 := Lib.hid (QModule.keep H20.out (w' := (w4.alloc (.cells #[.slice Aw4_0 nw4_0 cw4_0] 36))) (fun b hb => Below.heap_alloc _ _ b (by have := hb; simp only [Iv] at this; (try simp) <;> omega)))
 clear H20
 have H27 := Lib.hid (H21.out.alloc (.cells #[.slice Aw4_0 nw4_0 cw4_0] 36))
 clear H21
 have H28 := Lib.hid (QDesign.keep HQw4.out (w' := (w4.alloc (.cells #[.slice Aw4_0 nw4_0 cw4_0] 36))) (fun b hb => Below.heap_alloc _ _ b (by have := hb; simp only [Iv] at this; (try simp) <;> omega)))
 clear HQw4
 have HB29 := Lib.hid (HB22.out.alloc (by have := HB22.out.size; (try simp) <;> omega) (.cells #[.slice Aw4_0 nw4_0 cw4_0] 36))
 clear HB22
 have HX23 := Lib.hid (show Blk (w4.alloc (.cells #[.slice Aw4_0 nw4_0 cw4_0] 36)) (w4.heap.size) 36 #[.slice Aw4_0 nw4_0 cw4_0] from by have h := Blk.new (w4) 36 #[.slice Aw4_0 nw4_0 cw4_0]; simpa using h)
 clear yH15_0
 have yHX23_0 := blkS1 HX23.out
 go_wp2_with fail
 refine (i_Flatten pm HZ0.out H28.out.r (fun b hb => by have := hb; simp only [Iv] at this; (try simp) <;> omega)).mono ?_
 rintro e w5 ⟨vw5_0, rfl, hqw5_0, hb5⟩
 obtain ⟨Aw5_0_0, nw5_0_0, cw5_0_0, Aw5_0_1, nw5_0_1, cw5_0_1, Aw5_0_2, nw5_0_2, cw5_0_2, Aw5_0_3, nw5_0_3, cw5_0_3, rfl⟩ := hqw5_0.r.form
 have HQw5_0 := Lib.hid (QModule.mono hqw5_0 (S' := Iv (w4.heap.size + 1) (w5.heap.size)) (fun b hb => by have := hb; simp [New] at this; exact ⟨by omega, this.2⟩))
 clear hqw5_0
 rw [← HS1.out]
 have zw5 := hb5.size
 try simp at zw5
 have H30 := Lib.hid (RDesign.keep H24.out (w' := w5) (fun p hb => hb5.cell (by have : _ < w.heap.size := hb; (try simp) <;> omega)))
 clear H24
 have H31 := Lib.hid (H25.out.below hb5 H25.out.lt)
 clear H25
 have H32 := Lib.hid (QModule.keep H26.out (w' := w5) (fun b hb => hb5.block b (by have := hb; simp only [Iv] at this; (try simp) <;> omega)))
 clear H26
 have H33 := Lib.hid (H27.out.below hb5 H27.out.lt)
 clear H27
 have H34 := Lib.hid (QDesign.keep H28.out (w' := w5) (fun b hb => hb5.block b (by have := hb; simp only [Iv] at this; (try simp) <;> omega)))
 clear H28
 have H35 := Lib.hid (HX23.out.below hb5 HX23.out.lt)
 clear HX23
 have HB36 := Lib.hid (HB29.out.trans (hb5.mono (by have := HB29.out.size; (try simp) <;> omega)))
 clear HB29
 clear hb5
 have H38 := Lib.hid (RDesign.keep H30.out (w' := (w5.alloc (.cells #[.slice Aw5_0_0 nw5_0_0 cw5_0_0, .slice Aw5_0_1 nw5_0_1 cw5_0_1, .slice Aw5_0_2 nw5_0_2 cw5_0_2, .slice Aw5_0_3 nw5_0_3 cw5_0_3] 31))) (fun p hb => World.cell?_alloc_lt _ _ p (by have : _ < w.heap.size := hb; (try simp) <;> omega)))
 clear H30
 have H39 := Lib.hid (H31.out.alloc (.cells #[.slice Aw5_0_0 nw5_0_0 cw5_0_0, .slice Aw5_0_1 nw5_0_1 cw5_0_1, .slice Aw5_0_2 nw5_0_2 cw5_0_2, .slice Aw5_0_3 nw5_0_3 cw5_0_3] 31))
 clear H31
 have H40 := Lib.hid (QModule.keep H32.out (w' := (w5.alloc (.cells #[.slice Aw5_0_0 nw5_0_0 cw5_0_0, .slice Aw5_0_1 nw5_0_1 cw5_0_1, .slice Aw5_0_2 nw5_0_2 cw5_0_2, .slice Aw5_0_3 nw5_0_3 cw5_0_3] 31))) (fun b hb => Below.heap_alloc _ _ b (by have := hb; simp only [Iv] at this; (try simp) <;> omega)))
 clear H32
 have H41 := Lib.hid (H33.out.alloc (.cells #[.slice Aw5_0_0 nw5_0_0 cw5_0_0, .slice Aw5_0_1 nw5_0_1 cw5_0_1, .slice Aw5_0_2 nw5_0_2 cw5_0_2, .slice Aw5_0_3 nw5_0_3 cw5_0_3] 31))
 clear H33
 have H42 := Lib.hid (QDesign.keep H34.out (w' := (w5.alloc (.cells #[.slice Aw5_0_0 nw5_0_0 cw5_0_0, .slice Aw5_0_1 nw5_0_1 cw5_0_1, .slice Aw5_0_2 nw5_0_2 cw5_0_2, .slice Aw5_0_3 nw5_0_3 cw5_0_3] 31))) (fun b hb => Below.heap_alloc _ _ b (by have := hb; simp only [Iv] at this; (try simp) <;> omega)))
 clear H34
 have H43 := Lib.hid (H35.out.alloc (.cells #[.slice Aw5_0_0 nw5_0_0 cw5_0_0, .slice Aw5_0_1 nw5_0_1 cw5_0_1, .slice Aw5_0_2 nw5_0_2 cw5_0_2, .slice Aw5_0_3 nw5_0_3 cw5_0_3] 31))
 clear H35
 have H44 := Lib.hid (QModule.keep HQw5_0.out (w' := (w5.alloc (.cells #[.slice Aw5_0_0 nw5_0_0 cw5_0_0, .slice Aw5_0_1 nw5_0_1 cw5_0_1, .slice Aw5_0_2 nw5_0_2 cw5_0_2, .slice Aw5_0_3 nw5_0_3 cw5_0_3] 31))) (fun b hb => Below.heap_alloc _ _ b (by have := hb; simp only [Iv] at this; (try simp) <;> omega)))
 clear HQw5_0
 have HB45 := Lib.hid (HB36.out.alloc (by have := HB36.out.size; (try simp) <;> omega) (.cells #[.slice Aw5_0_0 nw5_0_0 cw5_0_0, .slice Aw5_0_1 nw5_0_1 cw5_0_1, .slice Aw5_0_2 nw5_0_2 cw5_0_2, .slice Aw5_0_3 nw5_0_3 cw5_0_3] 31))
 clear HB36
 have HX37 := Lib.hid (show Blk (w5.alloc (.cells #[.slice Aw5_0_0 nw5_0_0 cw5_0_0, .slice Aw5_0_1 nw5_0_1 cw5_0_1, .slice Aw5_0_2 nw5_0_2 cw5_0_2, .slice Aw5_0_3 nw5_0_3 cw5_0_3] 31)) (w5.heap.size) 31 #[.slice Aw5_0_0 nw5_0_0 cw5_0_0, .slice Aw5_0_1 nw5_0_1 cw5_0_1, .slice Aw5_0_2 nw5_0_2 cw5_0_2, .slice Aw5_0_3 nw5_0_3 cw5_0_3] from by have h := Blk.new (w5) 31 #[.slice Aw5_0_0 nw5_0_0 cw5_0_0, .slice Aw5_0_1 nw5_0_1 cw5_0_1, .slice Aw5_0_2 nw5_0_2 cw5_0_2, .slice Aw5_0_3 nw5_0_3 cw5_0_3]; simpa using h)
 clear yHX23_0
 obtain ⟨yHX37_0, yHX37_1, yHX37_2, yHX37_3⟩ := blkS4 HX37.out
 obtain ⟨yH41_0, yH41_1, yH41_2, yH41_3⟩ := blkS4 H41.out
 go_wp2_with fail
 refine (d_eqModule (flnM_sz d pm) H44.out.r H40.out.r (fun b hb => by have := hb; simp only [Iv] at this; (try simp) <;> omega) (fun b hb => by have := hb; simp only [Iv] at this; (try simp) <;> omega)).mono ?_
 rintro e w6 ⟨rfl, hb6⟩
 have zw6 := hb6.size
 try simp at zw6
 have H46 := Lib.hid (RDesign.keep H38.out (w' := w6) (fun p hb => hb6.cell (by have : _ < w.heap.size := hb; (try simp) <;> omega)))
 clear H38
 have H47 := Lib.hid (H39.out.below hb6 H39.out.lt)
 clear H39
 have H48 := Lib.hid (QModule.keep H40.out (w' := w6) (fun b hb => hb6.block b (by have := hb; simp only [Iv] at this; (try simp) <;> omega)))
 clear H40
 have H49 := Lib.hid (H41.out.below hb6 H41.out.lt)
 clear H41
 have H50 := Lib.hid (QDesign.keep H42.out (w' := w6) (fun b hb => hb6.block b (by have := hb; simp only [Iv] at this; (try simp) <;> omega)))
 clear H42
 have H51 := Lib.hid (H43.out.below hb6 H43.out.lt)
 clear H43
 have H52 := Lib.hid (QModule.keep H44.out (w' := w6) (fun b hb => hb6.block b (by have := hb; simp only [Iv] at this; (try simp) <;> omega)))
 clear H44
 have H53 := Lib.hid (HX37.out.below hb6 HX37.out.lt)
 clear HX37
 have HB54 := Lib.hid (HB45.out.trans (hb6.mono (by have := HB45.out.size; (try simp) <;> omega)))
 clear HB45
 clear hb6
 clear yHX37_0 yHX37_1 yHX37_2 yHX37_3 yH41_0 yH41_1 yH41_2 yH41_3
 go_wp2_with fail
 refine wp_region_lexC (by kernel_rfl) (by kernel_rfl) (fun x => Below w6.heap.size w6 x) ((Below.refl _ _).drew) (fun lexNE => ?_)
 have cH51_0 := bwS1 (B := w6.heap.size) H51.out H51.out.lt
 have cH47_0 := bwS1 (B := w6.heap.size) H47.out H47.out.lt
 have HL55 := Lib.hid ((Below.refl w6.heap.size w6).drew)
 have H56 := Lib.hid (RDesign.keep H46.out (w' := w6.drew) (fun p hb => rfl))
 clear H46
 have H57 := Lib.hid (H47.out.drew)
 clear H47
 have H58 := Lib.hid (QModule.keep H48.out (w' := w6.drew) (fun b hb => rfl))
 clear H48
 have H59 := Lib.hid (H49.out.drew)
 clear H49
 have H60 := Lib.hid (QDesign.keep H50.out (w' := w6.drew) (fun b hb => rfl))
 clear H50
 have H61 := Lib.hid (H51.out.drew)
 clear H51
 have H62 := Lib.hid (QModule.keep H52.out (w' := w6.drew) (fun b hb => rfl))
 clear H52
 have H63 := Lib.hid (H53.out.drew)
 clear H53
 have HB64 := Lib.hid (HB54.out.drew)
 clear HB54
 (repeat (first | (refine lex_r fun K hK => ?_; go_big_quiet_op; refine hK _ ?_; clear hK K) | (refine lex_k fun K hK => ?_; go_simp; refine hK _ ?_; clear hK K)))
 (refine lex_e fun K hK => ?_; go_big_op)
 refine (d_toDesign HZ0.out H56.out (fun b hb => by have : _ < w.heap.size := hb; (try simp) <;> omega)).mono ?_
 rintro e w7 ⟨vw7, rfl, hqw7, hb7⟩
 obtain ⟨Aw7_0, nw7_0, cw7_0, rfl⟩ := hqw7.r.form
 have HQw7 := Lib.hid (QDesign.mono hqw7 (S' := Iv (w6.heap.size) (w7.heap.size)) (fun b hb => by have := hb; simp [New] at this; exact ⟨by omega, this.2⟩))
 clear hqw7
 have zw7 := hb7.size
 try simp at zw7
 have H65 := Lib.hid (RDesign.keep H56.out (w' := w7) (fun p hb => hb7.cell (by have : _ < w.heap.size := hb; (try simp) <;> omega)))
 clear H56
 have H66 := Lib.hid (H57.out.below hb7 H57.out.lt)
 clear H57
 have H67 := Lib.hid (QModule.keep H58.out (w' := w7) (fun b hb => hb7.block b (by have := hb; simp only [Iv] at this; (try simp) <;> omega)))
 clear H58
 have H68 := Lib.hid (H59.out.below hb7 H59.out.lt)
 clear H59
 have H69 := Lib.hid (QDesign.keep H60.out (w' := w7) (fun b hb => hb7.block b (by have := hb; simp only [Iv] at this; (try simp) <;> omega)))
 clear H60
 have H70 := Lib.hid (H61.out.below hb7 H61.out.lt)
 clear H61
 have H71 := Lib.hid (QModule.keep H62.out (w' := w7) (fun b hb => hb7.block b (by have := hb; simp only [Iv] at this; (try simp) <;> omega)))
 clear H62
 have H72 := Lib.hid (H63.out.below hb7 H63.out.lt)
 clear H63
 have HB73 := Lib.hid (HB64.out.trans (hb7.mono (by have := HB64.out.size; (try simp) <;> omega)))
 clear HB64
 have HL74 := Lib.hid (HL55.out.trans (hb7.mono HL55.out.size))
 clear HL55
 refine hK _ _ (Cls.mk' HL74.out) ?_
 clear hK K hb7
 (repeat (first | (refine lex_r fun K hK => ?_; go_big_quiet_op; refine hK _ ?_; clear hK K) | (refine lex_k fun K hK => ?_; go_simp; refine hK _ ?_; clear hK K)))
 (refine lex_e fun K hK => ?_; go_big_op)
 refine (d_eqDesign HZ0.out H69.out.r HQw7.out.r (fun b hb => by have := hb; simp only [Iv] at this; (try simp) <;> omega) (fun b hb => by have := hb; simp only [Iv] at this; (try simp) <;> omega)).mono ?_
 rintro e w8 ⟨rfl, hb8⟩
 have zw8 := hb8.size
 try simp at zw8
 clear HQw7
 have H75 := Lib.hid (RDesign.keep H65.out (w' := w8) (fun p hb => hb8.cell (by have : _ < w.heap.size := hb; (try simp) <;> omega)))
 clear H65
 have H76 := Lib.hid (H66.out.below hb8 H66.out.lt)
 clear H66
 have H77 := Lib.hid (QModule.keep H67.out (w' := w8) (fun b hb => hb8.block b (by have := hb; simp only [Iv] at this; (try simp) <;> omega)))
 clear H67
 have H78 := Lib.hid (H68.out.below hb8 H68.out.lt)
 clear H68
 have H79 := Lib.hid (QDesign.keep H69.out (w' := w8) (fun b hb => hb8.block b (by have := hb; simp only [Iv] at this; (try simp) <;> omega)))
 clear H69
 have H80 := Lib.hid (H70.out.below hb8 H70.out.lt)
 clear H70
 have H81 := Lib.hid (QModule.keep H71.out (w' := w8) (fun b hb => hb8.block b (by have := hb; simp only [Iv] at this; (try simp) <;> omega)))
 clear H71
 have H82 := Lib.hid (H72.out.below hb8 H72.out.lt)
 clear H72
 have HB83 := Lib.hid (HB73.out.trans (hb8.mono (by have := HB73.out.size; (try simp) <;> omega)))
 clear HB73
 have HL84 := Lib.hid (HL74.out.trans (hb8.mono HL74.out.size))
 clear HL74
 refine hK _ _ (Cls.mk' HL84.out) ?_
 clear hK K hb8
 (repeat (first | (refine lex_r fun K hK => ?_; go_big_quiet_op; refine hK _ ?_; clear hK K) | (refine lex_k fun K hK => ?_; go_simp; refine hK _ ?_; clear hK K)))
 (refine lex_nil ?_)
 clear lexNE cH51_0 cH47_0
 have yH80_0 := blkS1 H80.out
 go_wp2_with fail
 have hmb85 : nDesign d ≤ 8388608 := by have h1 := nDesign_le d; have h2 : sDesign d ≤ 1048576 := HZ0.out; omega
 refine (d_markDesign (1) (by omega) H79.out (fun b hb => by have := hb; simp only [Iv] at this; (try simp) <;> omega)).mono ?_
 rintro e w9 ⟨rfl, hqw9, hb9⟩
 obtain ⟨mk86, hmk86⟩ : ∃ zz, zz = 1 + nDesign d := ⟨_, rfl⟩
 rw [← hmk86]
 have hmk86b : mk86 ≤ 8388609 := by omega
 have HMmk86 := Lib.hid hmk86
 clear hmk86 hmb85
 clear H79
 have zw9 := hb9.size
 try simp at zw9
 clear H80
 have H87 := Lib.hid (RDesign.keep H75.out (w' := w9) (fun p hb => hb9.cell (by have : _ < w.heap.size := hb; (try simp) <;> omega) (fun hc => by have := hb; simp only [Iv] at hc; omega)))
 clear H75
 have H88 := Lib.hid (hb9.blk H76.out (fun hc => by simp only [Iv] at hc; (try simp at hc) <;> omega))
 clear H76
 have H89 := Lib.hid (QModule.keep H77.out (w' := w9) (fun b hb => hb9.block b (by have := hb; simp only [Iv] at this; (try simp) <;> omega) (fun hc => by have := hb; simp only [Iv] at this; simp only [Iv] at hc; omega)))
 clear H77
 have H90 := Lib.hid (hb9.blk H78.out (fun hc => by simp only [Iv] at hc; (try simp at hc) <;> omega))
 clear H78
 have H91 := Lib.hid (QModule.keep H81.out (w' := w9) (fun b hb => hb9.block b (by have := hb; simp only [Iv] at this; (try simp) <;> omega) (fun hc => by have := hb; simp only [Iv] at this; simp only [Iv] at hc; omega)))
 clear H81
 have H92 := Lib.hid (hb9.blk H82.out (fun hc => by simp only [Iv] at hc; (try simp at hc) <;> omega))
 clear H82
 have HB93 := Lib.hid (HB83.out.trans (hb9.below (by have := HB83.out.size; (try simp) <;> omega) (fun b hb => by simp only [Iv] at hb; omega)))
 clear HB83
 clear hb9
 have HQw9 := Lib.hid hqw9
 clear hqw9
 clear yH80_0
 obtain ⟨yH92_0, yH92_1, yH92_2, yH92_3⟩ := blkS4 H92.out
 obtain ⟨yH90_0, yH90_1, yH90_2, yH90_3⟩ := blkS4 H90.out
 go_wp2_with fail
 refine (d_eqModule (flnM_sz d pm) H91.out.r H89.out.r (fun b hb => by have := hb; simp only [Iv] at this; (try simp) <;> omega) (fun b hb => by have := hb; simp only [Iv] at this; (try simp) <;> omega)).mono ?_
 rintro e w10 ⟨rfl, hb10⟩
 have zw10 := hb10.size
 try simp at zw10
 clear HQw9
 have H94 := Lib.hid (RDesign.keep H87.out (w' := w10) (fun p hb => hb10.cell (by have : _ < w.heap.size := hb; (try simp) <;> omega)))
 clear H87
 have H95 := Lib.hid (H88.out.below hb10 H88.out.lt)
 clear H88
 have H96 := Lib.hid (QModule.keep H89.out (w' := w10) (fun b hb => hb10.block b (by have := hb; simp only [Iv] at this; (try simp) <;> omega)))
 clear H89
 have H97 := Lib.hid (H90.out.below hb10 H90.out.lt)
 clear H90
 have H98 := Lib.hid (QModule.keep H91.out (w' := w10) (fun b hb => hb10.block b (by have := hb; simp only [Iv] at this; (try simp) <;> omega)))
 clear H91
 have H99 := Lib.hid (H92.out.below hb10 H92.out.lt)
 clear H92
 have HB100 := Lib.hid (HB93.out.trans (hb10.mono (by have := HB93.out.size; (try simp) <;> omega)))
 clear HB93
 clear hb10
 clear yH92_0 yH92_1 yH92_2 yH92_3 yH90_0 yH90_1 yH90_2 yH90_3
 obtain ⟨yH99_0, yH99_1, yH99_2, yH99_3⟩ := blkS4 H99.out
 go_wp2_with fail
 have hmb101 : nModule (flnM d pm) ≤ 8388608 := by have h1 := nModule_le (flnM d pm); have h2 : sModule (flnM d pm) ≤ 1048576 := flnM_sz d pm; omega
 refine (d_markModule (1) (by omega) H98.out (fun b hb => by have := hb; simp only [Iv] at this; (try simp) <;> omega)).mono ?_
 rintro e w11 ⟨rfl, hqw11, hb11⟩
 obtain ⟨mk102, hmk102⟩ : ∃ zz, zz = 1 + nModule (flnM d pm) := ⟨_, rfl⟩
 rw [← hmk102]
 have hmk102b : mk102 ≤ 16777217 := by omega
 have HMmk102 := Lib.hid hmk102
 clear hmk102 hmb101
 clear H98
 have zw11 := hb11.size
 try simp at zw11
 have H103 := Lib.hid (RDesign.keep H94.out (w' := w11) (fun p hb => hb11.cell (by have : _ < w.heap.size := hb; (try simp) <;> omega) (fun hc => by have := hb; simp only [Iv] at hc; omega)))
 clear H94
 have H104 := Lib.hid (hb11.blk H95.out (fun hc => by simp only [Iv] at hc; (try simp at hc) <;> omega))
 clear H95
 have H105 := Lib.hid (QModule.keep H96.out (w' := w11) (fun b hb => hb11.block b (by have := hb; simp only [Iv] at this; (try simp) <;> omega) (fun hc => by have := hb; simp only [Iv] at this; simp only [Iv] at hc; omega)))
 clear H96
 have H106 := Lib.hid (hb11.blk H97.out (fun hc => by simp only [Iv] at hc; (try simp at hc) <;> omega))
 clear H97
 have H107 := Lib.hid (hb11.blk H99.out (fun hc => by simp only [Iv] at hc; (try simp at hc) <;> omega))
 clear H99
 have HB108 := Lib.hid (HB100.out.trans (hb11.below (by have := HB100.out.size; (try simp) <;> omega) (fun b hb => by simp only [Iv] at hb; omega)))
 clear HB100
 clear hb11
 have HQw11 := Lib.hid hqw11
 clear hqw11
 clear yH99_0 yH99_1 yH99_2 yH99_3
 obtain ⟨yH107_0, yH107_1, yH107_2, yH107_3⟩ := blkS4 H107.out
 go_wp2_with fail
 have hmb109 : 1 + nModule (flnM d pm) ≤ 1099511627776 := by rw [← HMmk102.out]; omega
 refine (d_heldModule (1) (by omega) HQw11.out.r (fun b hb => by have := hb; simp only [Iv] at this; (try simp) <;> omega)).mono ?_
 rintro e w12 ⟨rfl, hb12⟩
 rw [← HMmk102.out]
 clear hmb109
 have zw12 := hb12.size
 try simp at zw12
 have H110 := Lib.hid (RDesign.keep H103.out (w' := w12) (fun p hb => hb12.cell (by have : _ < w.heap.size := hb; (try simp) <;> omega)))
 clear H103
 have H111 := Lib.hid (H104.out.below hb12 H104.out.lt)
 clear H104
 have H112 := Lib.hid (QModule.keep H105.out (w' := w12) (fun b hb => hb12.block b (by have := hb; simp only [Iv] at this; (try simp) <;> omega)))
 clear H105
 have H113 := Lib.hid (H106.out.below hb12 H106.out.lt)
 clear H106
 have H114 := Lib.hid (H107.out.below hb12 H107.out.lt)
 clear H107
 have H115 := Lib.hid (QModule.keep HQw11.out (w' := w12) (fun b hb => hb12.block b (by have := hb; simp only [Iv] at this; (try simp) <;> omega)))
 clear HQw11
 have HB116 := Lib.hid (HB108.out.trans (hb12.mono (by have := HB108.out.size; (try simp) <;> omega)))
 clear HB108
 clear hb12
 clear yH107_0 yH107_1 yH107_2 yH107_3
 have yH111_0 := blkS1 H111.out
 go_wp2_with fail
 refine (d_toDesign HZ0.out H110.out (fun b hb => by have : _ < w.heap.size := hb; (try simp) <;> omega)).mono ?_
 rintro e w13 ⟨vw13, rfl, hqw13, hb13⟩
 obtain ⟨Aw13_0, nw13_0, cw13_0, rfl⟩ := hqw13.r.form
 have HQw13 := Lib.hid (QDesign.mono hqw13 (S' := Iv (w12.heap.size) (w13.heap.size)) (fun b hb => by have := hb; simp [New] at this; exact ⟨by omega, this.2⟩))
 clear hqw13
 have zw13 := hb13.size
 try simp at zw13
 clear H110 H111
 have H117 := Lib.hid (QModule.keep H112.out (w' := w13) (fun b hb => hb13.block b (by have := hb; simp only [Iv] at this; (try simp) <;> omega)))
 clear H112
 have H118 := Lib.hid (H113.out.below hb13 H113.out.lt)
 clear H113
 have H119 := Lib.hid (H114.out.below hb13 H114.out.lt)
 clear H114
 have H120 := Lib.hid (QModule.keep H115.out (w' := w13) (fun b hb => hb13.block b (by have := hb; simp only [Iv] at this; (try simp) <;> omega)))
 clear H115
 have HB121 := Lib.hid (HB116.out.trans (hb13.mono (by have := HB116.out.size; (try simp) <;> omega)))
 clear HB116
 clear hb13
 clear yH111_0
 go_wp2_with fail
 refine (i_Flatten pm HZ0.out HQw13.out.r (fun b hb => by have := hb; simp only [Iv] at this; (try simp) <;> omega)).mono ?_
 rintro e w14 ⟨vw14_0, rfl, hqw14_0, hb14⟩
 obtain ⟨Aw14_0_0, nw14_0_0, cw14_0_0, Aw14_0_1, nw14_0_1, cw14_0_1, Aw14_0_2, nw14_0_2, cw14_0_2, Aw14_0_3, nw14_0_3, cw14_0_3, rfl⟩ := hqw14_0.r.form
 have HQw14_0 := Lib.hid (QModule.mono hqw14_0 (S' := Iv (w13.heap.size) (w14.heap.size)) (fun b hb => by have := hb; simp [New] at this; exact ⟨by omega, this.2⟩))
 clear hqw14_0
 rw [← HS1.out]
 have zw14 := hb14.size
 try simp at zw14
 clear HQw13
 have H122 := Lib.hid (QModule.keep H117.out (w' := w14) (fun b hb => hb14.block b (by have := hb; simp only [Iv] at this; (try simp) <;> omega)))
 clear H117
 have H123 := Lib.hid (H118.out.below hb14 H118.out.lt)
 clear H118
 have H124 := Lib.hid (H119.out.below hb14 H119.out.lt)
 clear H119
 have H125 := Lib.hid (QModule.keep H120.out (w' := w14) (fun b hb => hb14.block b (by have := hb; simp only [Iv] at this; (try simp) <;> omega)))
 clear H120
 have HB126 := Lib.hid (HB121.out.trans (hb14.mono (by have := HB121.out.size; (try simp) <;> omega)))
 clear HB121
 clear hb14
 have H128 := Lib.hid (QModule.keep H122.out (w' := (w14.alloc (.cells #[.slice Aw14_0_0 nw14_0_0 cw14_0_0, .slice Aw14_0_1 nw14_0_1 cw14_0_1, .slice Aw14_0_2 nw14_0_2 cw14_0_2, .slice Aw14_0_3 nw14_0_3 cw14_0_3] 31))) (fun b hb => Below.heap_alloc _ _ b (by have := hb; simp only [Iv] at this; (try simp) <;> omega)))
 clear H122
 have H129 := Lib.hid (H123.out.alloc (.cells #[.slice Aw14_0_0 nw14_0_0 cw14_0_0, .slice Aw14_0_1 nw14_0_1 cw14_0_1, .slice Aw14_0_2 nw14_0_2 cw14_0_2, .slice Aw14_0_3 nw14_0_3 cw14_0_3] 31))
 clear H123
 have H130 := Lib.hid (H124.out.alloc (.cells #[.slice Aw14_0_0 nw14_0_0 cw14_0_0, .slice Aw14_0_1 nw14_0_1 cw14_0_1, .slice Aw14_0_2 nw14_0_2 cw14_0_2, .slice Aw14_0_3 nw14_0_3 cw14_0_3] 31))
 clear H124
 have H131 := Lib.hid (QModule.keep H125.out (w' := (w14.alloc (.cells #[.slice Aw14_0_0 nw14_0_0 cw14_0_0, .slice Aw14_0_1 nw14_0_1 cw14_0_1, .slice Aw14_0_2 nw14_0_2 cw14_0_2, .slice Aw14_0_3 nw14_0_3 cw14_0_3] 31))) (fun b hb => Below.heap_alloc _ _ b (by have := hb; simp only [Iv] at this; (try simp) <;> omega)))
 clear H125
 have H132 := Lib.hid (QModule.keep HQw14_0.out (w' := (w14.alloc (.cells #[.slice Aw14_0_0 nw14_0_0 cw14_0_0, .slice Aw14_0_1 nw14_0_1 cw14_0_1, .slice Aw14_0_2 nw14_0_2 cw14_0_2, .slice Aw14_0_3 nw14_0_3 cw14_0_3] 31))) (fun b hb => Below.heap_alloc _ _ b (by have := hb; simp only [Iv] at this; (try simp) <;> omega)))
 clear HQw14_0
 have HB133 := Lib.hid (HB126.out.alloc (by have := HB126.out.size; (try simp) <;> omega) (.cells #[.slice Aw14_0_0 nw14_0_0 cw14_0_0, .slice Aw14_0_1 nw14_0_1 cw14_0_1, .slice Aw14_0_2 nw14_0_2 cw14_0_2, .slice Aw14_0_3 nw14_0_3 cw14_0_3] 31))
 clear HB126
 have HX127 := Lib.hid (show Blk (w14.alloc (.cells #[.slice Aw14_0_0 nw14_0_0 cw14_0_0, .slice Aw14_0_1 nw14_0_1 cw14_0_1, .slice Aw14_0_2 nw14_0_2 cw14_0_2, .slice Aw14_0_3 nw14_0_3 cw14_0_3] 31)) (w14.heap.size) 31 #[.slice Aw14_0_0 nw14_0_0 cw14_0_0, .slice Aw14_0_1 nw14_0_1 cw14_0_1, .slice Aw14_0_2 nw14_0_2 cw14_0_2, .slice Aw14_0_3 nw14_0_3 cw14_0_3] from by have h := Blk.new (w14) 31 #[.slice Aw14_0_0 nw14_0_0 cw14_0_0, .slice Aw14_0_1 nw14_0_1 cw14_0_1, .slice Aw14_0_2 nw14_0_2 cw14_0_2, .slice Aw14_0_3 nw14_0_3 cw14_0_3]; simpa using h)
 obtain ⟨yHX127_0, yHX127_1, yHX127_2, yHX127_3⟩ := blkS4 HX127.out
 obtain ⟨yH129_0, yH129_1, yH129_2, yH129_3⟩ := blkS4 H129.out
 go_wp2_with fail
 refine (d_eqModule (flnM_sz d pm) H132.out.r H128.out.r (fun b hb => by have := hb; simp only [Iv] at this; (try simp) <;> omega) (fun b hb => by have := hb; simp only [Iv] at this; (try simp) <;> omega)).mono ?_
 rintro e w15 ⟨rfl, hb15⟩
 have zw15 := hb15.size
 try simp at zw15
 clear H128 H129 H132 HX127
 have H134 := Lib.hid (H130.out.below hb15 H130.out.lt)
 clear H130
 have H135 := Lib.hid (QModule.keep H131.out (w' := w15) (fun b hb => hb15.block b (by have := hb; simp only [Iv] at this; (try simp) <;> omega)))
 clear H131
 have HB136 := Lib.hid (HB133.out.trans (hb15.mono (by have := HB133.out.size; (try simp) <;> omega)))
 clear HB133
 clear hb15
 clear yHX127_0 yHX127_1 yHX127_2 yHX127_3 yH129_0 yH129_1 yH129_2 yH129_3
 obtain ⟨yH134_0, yH134_1, yH134_2, yH134_3⟩ := blkS4 H134.out
 go_wp2_with fail
 have hmb137 : 1 + nModule (flnM d pm) ≤ 1099511627776 := by rw [← HMmk102.out]; omega
 refine (d_heldModule (1) (by omega) H135.out.r (fun b hb => by have := hb; simp only [Iv] at this; (try simp) <;> omega)).mono ?_
 rintro e w16 ⟨rfl, hb16⟩
 rw [← HMmk102.out]
 clear hmb137
 have zw16 := hb16.size
 try simp at zw16
 clear H134 H135
 have HB138 := Lib.hid (HB136.out.trans (hb16.mono (by have := HB136.out.size; (try simp) <;> omega)))
 clear HB136
 clear hb16
 clear yH134_0 yH134_1 yH134_2 yH134_3
 go_wp2_with fail
 go_ret
 exact ⟨rfl, HB138.out⟩
set_option maxRecDepth 100000 in
theorem lifted_FnExactFlatten (os : Os) (started : os.Started) (H : Type) (enc : TypeId × Value → H) :
  ReturnsInHanded {} Try.checked os 3 .any (Rows.fnExactFlattenSpec.pre6 enc Try.prog Try.f3 Rows.fnExactFlattenRow.domain false) (Rows.fnExactFlattenSpec.post enc Try.prog Try.f3 false true false false) := by
 refine lift (F := 3) (fn := Try.f3) (s := Rows.fnExactFlattenSpec) (conds := Rows.fnExactFlattenRow.domain) (by kernel_rfl) Try.func3 (by kernel_rfl) rfl (by kernel_rfl) ?_ ?_ os started H enc
  (ChangeSpec.witness6 (enc := enc) (C := Try.checked) false ⟨#[], #[.agg #[.slice none 0 0], .int .i64 0], []⟩ 8 (by kernel_rfl) (by kernel_rfl) (by kernel_rfl) (by kernel_rfl))
 ·intro H ds hl
  rw [Try.params3] at hl
  match ds, hl with
  | [d0, d1], _ => exact ⟨rfl, rfl, rfl⟩
 ·intro W base args H enc ds p hval hA hlt
  rw [Try.params3] at hA hval
  obtain ⟨v0, vs0, e0, es0, p0, q0, hargs, rfl, rfl, h0, r0⟩ := trodAll_cons hA
  obtain ⟨v1, vs1, e1, es1, p1, q1, rfl, rfl, rfl, h1, r1⟩ := trodAll_cons r0
  obtain ⟨rfl, rfl, rfl⟩ := trodAll_nil r1
  obtain rfl : args = #[v0, v1] := by cases args; simp_all
  obtain ⟨x0, w0⟩ := op_Design (hval 0 24 v0 rfl rfl) h0 (fun x hx => hlt x (by simp [hx]))
  obtain ⟨pm, rfl, w1⟩ := op_int Try.underlying3 (hval 1 3 v1 rfl rfl) h1
  exact walk_FnExactFlatten v0 x0 pm W w0
theorem facts_FnExactFlatten : joinedFacts Try.pinned.checked.prog 3 Try.f3 Rows.fnExactFlattenSpec Rows.fnExactFlattenRow = true :=
 facts_of (P := Try.prog) mayE liftE makeE rfl rfl (by kernel_rfl) (by kernel_rfl) (by kernel_rfl) (by kernel_rfl) (by kernel_rfl) (by kernel_rfl) (by kernel_rfl) (by kernel_rfl) (by kernel_rfl) (by kernel_rfl) (by kernel_rfl) (by kernel_rfl) (by kernel_rfl) rfl rfl (by kernel_rfl) (by kernel_rfl) (by kernel_rfl) (by kernel_rfl) (by kernel_rfl) (by kernel_rfl) (by kernel_rfl) (by kernel_rfl) (by kernel_rfl) (by kernel_rfl) (by kernel_rfl) rfl rfl (by kernel_rfl) (by kernel_rfl) (by kernel_rfl)
theorem over_FnExactFlatten : Rows.fnExactFlattenRow.holds Try.pinned (OpenSpec.ofChange Rows.fnExactFlattenSpec) :=
 OpenClaim.holds_of_wide 3 Try.f3 rfl rfl rfl rfl rfl rfl rfl ⟨rfl, rfl, rfl, rfl, rfl⟩ rfl rfl rfl rfl rfl (by kernel_rfl) Try.func3 facts_FnExactFlatten
  (of_decide_eq_true (by kernel_rfl)) (by unfold Func.isWrapper; first | (rw [if_pos (by decide +kernel)]; kernel_rfl) | (rw [if_neg (by decide +kernel)]; exact ⟨rfl, rfl⟩))
  (fun os started H enc _ => lifted_FnExactFlatten os started H enc)
theorem FnExactFlatten_holds : Rows.FnExactFlattenSaid := over_FnExactFlatten
end Go.Proofs.Ytlgbdpcobbbglaa
