/- Law of the trace: for every module and inputs the program's FlatTrace returns the reference's values of all signals in all cycles, in memory of its own. Conditions: none. -/
import Derived.Test.YtjkdgedgfkgjdaaFrameA
import Derived.Test.YtjkdgedgfkgjdaaTrcT
import Derived.Test.YtjkdgedgfkgjdaaTrcZ
import Derived.Test.YtjkdgedgfkgjdaaGa
import Derived.Outline
namespace Go.Proofs.Ytjkdgedgfkgjdaa
open Go.ChangeShapes Go.WideShapes Go.ChangeAt Go.RowKit

set_option maxRecDepth 100000 in
set_option maxHeartbeats 8000000 in
theorem walk_FnExactFlatTrace (v0 : Value) (m : TModule) (v1 : Value) (ins : List TIntS) (w : World) (h0 : RModule (w) (fun b => b < w.heap.size) (v0) m ∧ WfModule m) (h1 : Rep (w) (fun b => b < w.heap.size) (v1) (fIntSS ins) ∧ Wf (fIntSS ins)) :
  Calls Try.prog 4 #[v0, v1] w fun e w' => e = .returned (.bool true) ∧ Below w.heap.size w w' := by
 obtain ⟨h0, wf0⟩ := h0
 have WF0 := Lib.hid wf0
 clear wf0
 obtain ⟨h1, wf1⟩ := h1
 have WF1 := Lib.hid wf1
 clear wf1
 obtain ⟨Aa0_0, na0_0, ca0_0, Aa0_1, na0_1, ca0_1, Aa0_2, na0_2, ca0_2, Aa0_3, na0_3, ca0_3, rfl⟩ := h0.form
 obtain ⟨Aa1, na1, ca1, rfl⟩ := slv_of h1
 have HB0 := Lib.hid (Below.refl w.heap.size w)
 have HR0 := Lib.hid h0
 clear h0
 have HR1 := Lib.hid h1
 clear h1
 go_enter Try.func4, Try.ntmps4
 have H2 := Lib.hid (RModule.keep HR0.out (w' := (w.alloc (.cells #[.slice Aa0_0 na0_0 ca0_0, .slice Aa0_1 na0_1 ca0_1, .slice Aa0_2 na0_2 ca0_2, .slice Aa0_3 na0_3 ca0_3] 27))) (fun p hb => World.cell?_alloc_lt _ _ p (by have : _ < w.heap.size := hb; (try simp) <;> omega)))
 clear HR0
 have H3 := Lib.hid (Rep.keep HR1.out (w' := (w.alloc (.cells #[.slice Aa0_0 na0_0 ca0_0, .slice Aa0_1 na0_1 ca0_1, .slice Aa0_2 na0_2 ca0_2, .slice Aa0_3 na0_3 ca0_3] 27))) (fun p hb => World.cell?_alloc_lt _ _ p (by have : _ < w.heap.size := hb; (try simp) <;> omega)))
 clear HR1
 have HB4 := Lib.hid (HB0.out.alloc (by have := HB0.out.size; (try simp) <;> omega) (.cells #[.slice Aa0_0 na0_0 ca0_0, .slice Aa0_1 na0_1 ca0_1, .slice Aa0_2 na0_2 ca0_2, .slice Aa0_3 na0_3 ca0_3] 27))
 clear HB0
 have HX1 := Lib.hid (show Blk (w.alloc (.cells #[.slice Aa0_0 na0_0 ca0_0, .slice Aa0_1 na0_1 ca0_1, .slice Aa0_2 na0_2 ca0_2, .slice Aa0_3 na0_3 ca0_3] 27)) (w.heap.size) 27 #[.slice Aa0_0 na0_0 ca0_0, .slice Aa0_1 na0_1 ca0_1, .slice Aa0_2 na0_2 ca0_2, .slice Aa0_3 na0_3 ca0_3] from by have h := Blk.new (w) 27 #[.slice Aa0_0 na0_0 ca0_0, .slice Aa0_1 na0_1 ca0_1, .slice Aa0_2 na0_2 ca0_2, .slice Aa0_3 na0_3 ca0_3]; simpa using h)
 obtain ⟨yHX1_0, yHX1_1, yHX1_2, yHX1_3⟩ := blkS4 HX1.out
 go_wp2_with fail
 refine (d_szModule (1048576) (by omega) H2.out (fun b hb => by have : _ < w.heap.size := hb; (try simp) <;> omega)).mono ?_
 rintro e w1 ⟨rfl, hb1⟩
 obtain ⟨cz0, hcz0⟩ : ∃ zz, zz = sModule m := ⟨_, rfl⟩
 rw [← hcz0]
 have zw1 := hb1.size
 try simp at zw1
 have H5 := Lib.hid (RModule.keep H2.out (w' := w1) (fun p hb => hb1.cell (by have : _ < w.heap.size := hb; (try simp) <;> omega)))
 clear H2
 have H6 := Lib.hid (Rep.keep H3.out (w' := w1) (fun p hb => hb1.cell (by have : _ < w.heap.size := hb; (try simp) <;> omega)))
 clear H3
 have H7 := Lib.hid (HX1.out.below hb1 HX1.out.lt)
 clear HX1
 have HB8 := Lib.hid (HB4.out.trans (hb1.mono (by have := HB4.out.size; (try simp) <;> omega)))
 clear HB4
 clear hb1
 by_cases bcz0 : cz0 ≤ 1048576
 rotate_left
 ·rw [leftD_no bcz0]
  clear hcz0
  go_wp2_with fail
  go_ret
  exact ⟨rfl, HB8.out⟩
 obtain ⟨lf0, hlf0⟩ : ∃ zz, zz = 1048576 - cz0 := ⟨_, rfl⟩
 rw [leftD_yes bcz0, ← hlf0]
 have HZ0 := Lib.hid (show sModule m ≤ 1048576 by rw [← hcz0]; omega)
 have hllf0 : lf0 ≤ 1048576 := by omega
 clear hcz0 bcz0 hlf0
 clear yHX1_0 yHX1_1 yHX1_2 yHX1_3
 go_wp2_with fail
 refine (d_szIntSS (lf0) (by omega) H6.out (fun b hb => by have : _ < w.heap.size := hb; (try simp) <;> omega)).mono ?_
 rintro e w2 ⟨rfl, hb2⟩
 obtain ⟨cz1, hcz1⟩ : ∃ zz, zz = szL sIntS ins := ⟨_, rfl⟩
 rw [← hcz1]
 have zw2 := hb2.size
 try simp at zw2
 have H9 := Lib.hid (RModule.keep H5.out (w' := w2) (fun p hb => hb2.cell (by have : _ < w.heap.size := hb; (try simp) <;> omega)))
 clear H5
 have H10 := Lib.hid (Rep.keep H6.out (w' := w2) (fun p hb => hb2.cell (by have : _ < w.heap.size := hb; (try simp) <;> omega)))
 clear H6
 have H11 := Lib.hid (H7.out.below hb2 H7.out.lt)
 clear H7
 have HB12 := Lib.hid (HB8.out.trans (hb2.mono (by have := HB8.out.size; (try simp) <;> omega)))
 clear HB8
 clear hb2
 by_cases bcz1 : cz1 ≤ lf0
 rotate_left
 ·rw [leftD_no bcz1]
  clear hcz1
  go_wp2_with fail
  go_ret
  exact ⟨rfl, HB12.out⟩
 obtain ⟨lf1, hlf1⟩ : ∃ zz, zz = lf0 - cz1 := ⟨_, rfl⟩
 rw [leftD_yes bcz1, ← hlf1]
 have HZ1 := Lib.hid (show szL sIntS ins ≤ 1048576 by rw [← hcz1]; omega)
 have hllf1 : lf1 ≤ 1048576 := by omega
 clear hcz1 bcz1 hlf1
 obtain ⟨yH11_0, yH11_1, yH11_2, yH11_3⟩ := blkS4 H11.out
 go_wp2_with fail
 refine (d_toModule HZ0.out H9.out (fun b hb => by have : _ < w.heap.size := hb; (try simp) <;> omega)).mono ?_
 rintro e w3 ⟨vw3, rfl, hqw3, hb3⟩
 obtain ⟨Aw3_0, nw3_0, cw3_0, Aw3_1, nw3_1, cw3_1, Aw3_2, nw3_2, cw3_2, Aw3_3, nw3_3, cw3_3, rfl⟩ := hqw3.r.form
 have HQw3 := Lib.hid (QModule.mono hqw3 (S' := Iv (w2.heap.size) (w3.heap.size)) (fun b hb => by have := hb; simp [New] at this; exact ⟨by omega, this.2⟩))
 clear hqw3
 have zw3 := hb3.size
 try simp at zw3
 have H13 := Lib.hid (RModule.keep H9.out (w' := w3) (fun p hb => hb3.cell (by have : _ < w.heap.size := hb; (try simp) <;> omega)))
 clear H9
 have H14 := Lib.hid (Rep.keep H10.out (w' := w3) (fun p hb => hb3.cell (by have : _ < w.heap.size := hb; (try simp) <;> omega)))
 clear H10
 have H15 := Lib.hid (H11.out.below hb3 H11.out.lt)
 clear H11
 have HB16 := Lib.hid (HB12.out.trans (hb3.mono (by have := HB12.out.size; (try simp) <;> omega)))
 clear HB12
 clear hb3
 clear yH11_0 yH11_1 yH11_2 yH11_3
 go_wp2_with fail
 refine (d_toIntSS HZ1.out H14.out (fun b hb => by have : _ < w.heap.size := hb; (try simp) <;> omega)).mono ?_
 rintro e w4 ⟨vw4, rfl, hqw4, hb4⟩
 obtain ⟨Aw4, nw4, cw4, rfl⟩ := slv_of hqw4.rep
 have HQw4 := Lib.hid (Sep.mono hqw4 (S' := Iv (w3.heap.size) (w4.heap.size)) (fun b hb => by have := hb; simp [New] at this; exact ⟨by omega, this.2⟩))
 clear hqw4
 have zw4 := hb4.size
 try simp at zw4
 have H17 := Lib.hid (RModule.keep H13.out (w' := w4) (fun p hb => hb4.cell (by have : _ < w.heap.size := hb; (try simp) <;> omega)))
 clear H13
 have H18 := Lib.hid (Rep.keep H14.out (w' := w4) (fun p hb => hb4.cell (by have : _ < w.heap.size := hb; (try simp) <;> omega)))
 clear H14
 have H19 := Lib.hid (H15.out.below hb4 H15.out.lt)
 clear H15
 have H20 := Lib.hid (QModule.keep HQw3.out (w' := w4) (fun b hb => hb4.block b (by have := hb; simp only [Iv] at this; (try simp) <;> omega)))
 clear HQw3
 have HB21 := Lib.hid (HB16.out.trans (hb4.mono (by have := HB16.out.size; (try simp) <;> omega)))
 clear HB16
 clear hb4
 go_wp2_with fail
 refine (s_FlatTrace HZ0.out H20.out.r (fun b hb => by have := hb; simp only [Iv] at this; (try simp) <;> omega) HQw4.out.rep (fun b hb => by have := hb; simp only [Iv] at this; (try simp) <;> omega)).mono ?_
 rintro e w5 ⟨vw5_0, rfl, hqw5_0, hb5⟩
 obtain ⟨Aw5_0, nw5_0, cw5_0, rfl⟩ := slv_of hqw5_0.rep
 have HQw5_0 := Lib.hid (Sep.mono hqw5_0 (S' := Iv (w4.heap.size) (w5.heap.size)) (fun b hb => by have := hb; simp [New] at this; exact ⟨by omega, this.2⟩))
 clear hqw5_0
 have zw5 := hb5.size
 try simp at zw5
 clear H20 HQw4
 have H22 := Lib.hid (RModule.keep H17.out (w' := w5) (fun p hb => hb5.cell (by have : _ < w.heap.size := hb; (try simp) <;> omega)))
 clear H17
 have H23 := Lib.hid (Rep.keep H18.out (w' := w5) (fun p hb => hb5.cell (by have : _ < w.heap.size := hb; (try simp) <;> omega)))
 clear H18
 have H24 := Lib.hid (H19.out.below hb5 H19.out.lt)
 clear H19
 have HB25 := Lib.hid (HB21.out.trans (hb5.mono (by have := HB21.out.size; (try simp) <;> omega)))
 clear HB21
 clear hb5
 obtain ⟨yH24_0, yH24_1, yH24_2, yH24_3⟩ := blkS4 H24.out
 go_wp2_with fail
 refine (d_toModule HZ0.out H22.out (fun b hb => by have : _ < w.heap.size := hb; (try simp) <;> omega)).mono ?_
 rintro e w6 ⟨vw6, rfl, hqw6, hb6⟩
 obtain ⟨Aw6_0, nw6_0, cw6_0, Aw6_1, nw6_1, cw6_1, Aw6_2, nw6_2, cw6_2, Aw6_3, nw6_3, cw6_3, rfl⟩ := hqw6.r.form
 have HQw6 := Lib.hid (QModule.mono hqw6 (S' := Iv (w5.heap.size) (w6.heap.size)) (fun b hb => by have := hb; simp [New] at this; exact ⟨by omega, this.2⟩))
 clear hqw6
 have zw6 := hb6.size
 try simp at zw6
 have H26 := Lib.hid (RModule.keep H22.out (w' := w6) (fun p hb => hb6.cell (by have : _ < w.heap.size := hb; (try simp) <;> omega)))
 clear H22
 have H27 := Lib.hid (Rep.keep H23.out (w' := w6) (fun p hb => hb6.cell (by have : _ < w.heap.size := hb; (try simp) <;> omega)))
 clear H23
 have H28 := Lib.hid (H24.out.below hb6 H24.out.lt)
 clear H24
 have H29 := Lib.hid (Sep.keep HQw5_0.out (w' := w6) (fun b hb => hb6.block b (by have := hb; simp only [Iv] at this; (try simp) <;> omega)))
 clear HQw5_0
 have HB30 := Lib.hid (HB25.out.trans (hb6.mono (by have := HB25.out.size; (try simp) <;> omega)))
 clear HB25
 clear hb6
 have H32 := Lib.hid (RModule.keep H26.out (w' := (w6.alloc (.cells #[.slice Aw6_0 nw6_0 cw6_0, .slice Aw6_1 nw6_1 cw6_1, .slice Aw6_2 nw6_2 cw6_2, .slice Aw6_3 nw6_3 cw6_3] 41))) (fun p hb => World.cell?_alloc_lt _ _ p (by have : _ < w.heap.size := hb; (try simp) <;> omega)))
 clear H26
 have H33 := Lib.hid (Rep.keep H27.out (w' := (w6.alloc (.cells #[.slice Aw6_0 nw6_0 cw6_0, .slice Aw6_1 nw6_1 cw6_1, .slice Aw6_2 nw6_2 cw6_2, .slice Aw6_3 nw6_3 cw6_3] 41))) (fun p hb => World.cell?_alloc_lt _ _ p (by have : _ < w.heap.size := hb; (try simp) <;> omega)))
 clear H27
 have H34 := Lib.hid (H28.out.alloc (.cells #[.slice Aw6_0 nw6_0 cw6_0, .slice Aw6_1 nw6_1 cw6_1, .slice Aw6_2 nw6_2 cw6_2, .slice Aw6_3 nw6_3 cw6_3] 41))
 clear H28
 have H35 := Lib.hid (Sep.keep H29.out (w' := (w6.alloc (.cells #[.slice Aw6_0 nw6_0 cw6_0, .slice Aw6_1 nw6_1 cw6_1, .slice Aw6_2 nw6_2 cw6_2, .slice Aw6_3 nw6_3 cw6_3] 41))) (fun b hb => Below.heap_alloc _ _ b (by have := hb; simp only [Iv] at this; (try simp) <;> omega)))
 clear H29
 have H36 := Lib.hid (QModule.keep HQw6.out (w' := (w6.alloc (.cells #[.slice Aw6_0 nw6_0 cw6_0, .slice Aw6_1 nw6_1 cw6_1, .slice Aw6_2 nw6_2 cw6_2, .slice Aw6_3 nw6_3 cw6_3] 41))) (fun b hb => Below.heap_alloc _ _ b (by have := hb; simp only [Iv] at this; (try simp) <;> omega)))
 clear HQw6
 have HB37 := Lib.hid (HB30.out.alloc (by have := HB30.out.size; (try simp) <;> omega) (.cells #[.slice Aw6_0 nw6_0 cw6_0, .slice Aw6_1 nw6_1 cw6_1, .slice Aw6_2 nw6_2 cw6_2, .slice Aw6_3 nw6_3 cw6_3] 41))
 clear HB30
 have HX31 := Lib.hid (show Blk (w6.alloc (.cells #[.slice Aw6_0 nw6_0 cw6_0, .slice Aw6_1 nw6_1 cw6_1, .slice Aw6_2 nw6_2 cw6_2, .slice Aw6_3 nw6_3 cw6_3] 41)) (w6.heap.size) 41 #[.slice Aw6_0 nw6_0 cw6_0, .slice Aw6_1 nw6_1 cw6_1, .slice Aw6_2 nw6_2 cw6_2, .slice Aw6_3 nw6_3 cw6_3] from by have h := Blk.new (w6) 41 #[.slice Aw6_0 nw6_0 cw6_0, .slice Aw6_1 nw6_1 cw6_1, .slice Aw6_2 nw6_2 cw6_2, .slice Aw6_3 nw6_3 cw6_3]; simpa using h)
 clear yH24_0 yH24_1 yH24_2 yH24_3
 go_wp2_with fail
 refine (d_toIntSS HZ1.out H33.out (fun b hb => by have : _ < w.heap.size := hb; (try simp) <;> omega)).mono ?_
 rintro e w7 ⟨vw7, rfl, hqw7, hb7⟩
 obtain ⟨Aw7, nw7, cw7, rfl⟩ := slv_of hqw7.rep
 have HQw7 := Lib.hid (Sep.mono hqw7 (S' := Iv (w6.heap.size + 1) (w7.heap.size)) (fun b hb => by have := hb; simp [New] at this; exact ⟨by omega, this.2⟩))
 clear hqw7
 have zw7 := hb7.size
 try simp at zw7
 have H38 := Lib.hid (RModule.keep H32.out (w' := w7) (fun p hb => hb7.cell (by have : _ < w.heap.size := hb; (try simp) <;> omega)))
 clear H32
 have H39 := Lib.hid (Rep.keep H33.out (w' := w7) (fun p hb => hb7.cell (by have : _ < w.heap.size := hb; (try simp) <;> omega)))
 clear H33
 have H40 := Lib.hid (H34.out.below hb7 H34.out.lt)
 clear H34
 have H41 := Lib.hid (Sep.keep H35.out (w' := w7) (fun b hb => hb7.block b (by have := hb; simp only [Iv] at this; (try simp) <;> omega)))
 clear H35
 have H42 := Lib.hid (QModule.keep H36.out (w' := w7) (fun b hb => hb7.block b (by have := hb; simp only [Iv] at this; (try simp) <;> omega)))
 clear H36
 have H43 := Lib.hid (HX31.out.below hb7 HX31.out.lt)
 clear HX31
 have HB44 := Lib.hid (HB37.out.trans (hb7.mono (by have := HB37.out.size; (try simp) <;> omega)))
 clear HB37
 clear hb7
 obtain ⟨yH43_0, yH43_1, yH43_2, yH43_3⟩ := blkS4 H43.out
 go_wp2_with fail
 refine (i_FlatTrace HZ0.out H42.out.r (fun b hb => by have := hb; simp only [Iv] at this; (try simp) <;> omega) HQw7.out.rep (fun b hb => by have := hb; simp only [Iv] at this; (try simp) <;> omega)).mono ?_
 rintro e w8 ⟨vw8_0, rfl, hqw8_0, hb8⟩
 obtain ⟨Aw8_0, nw8_0, cw8_0, rfl⟩ := slv_of hqw8_0.rep
 have HQw8_0 := Lib.hid (Sep.mono hqw8_0 (S' := Iv (w7.heap.size) (w8.heap.size)) (fun b hb => by have := hb; simp [New] at this; exact ⟨by omega, this.2⟩))
 clear hqw8_0
 have zw8 := hb8.size
 try simp at zw8
 have H45 := Lib.hid (RModule.keep H38.out (w' := w8) (fun p hb => hb8.cell (by have : _ < w.heap.size := hb; (try simp) <;> omega)))
 clear H38
 have H46 := Lib.hid (Rep.keep H39.out (w' := w8) (fun p hb => hb8.cell (by have : _ < w.heap.size := hb; (try simp) <;> omega)))
 clear H39
 have H47 := Lib.hid (H40.out.below hb8 H40.out.lt)
 clear H40
 have H48 := Lib.hid (Sep.keep H41.out (w' := w8) (fun b hb => hb8.block b (by have := hb; simp only [Iv] at this; (try simp) <;> omega)))
 clear H41
 have H49 := Lib.hid (QModule.keep H42.out (w' := w8) (fun b hb => hb8.block b (by have := hb; simp only [Iv] at this; (try simp) <;> omega)))
 clear H42
 have H50 := Lib.hid (H43.out.below hb8 H43.out.lt)
 clear H43
 have H51 := Lib.hid (Sep.keep HQw7.out (w' := w8) (fun b hb => hb8.block b (by have := hb; simp only [Iv] at this; (try simp) <;> omega)))
 clear HQw7
 have HB52 := Lib.hid (HB44.out.trans (hb8.mono (by have := HB44.out.size; (try simp) <;> omega)))
 clear HB44
 clear hb8
 clear yH43_0 yH43_1 yH43_2 yH43_3
 go_wp2_with fail
 refine (d_eqIntSS (trcL_sz m ins) HQw8_0.out.rep H48.out.rep (fun b hb => by have := hb; simp only [Iv] at this; (try simp) <;> omega) (fun b hb => by have := hb; simp only [Iv] at this; (try simp) <;> omega)).mono ?_
 rintro e w9 ⟨rfl, hb9⟩
 have zw9 := hb9.size
 try simp at zw9
 have H53 := Lib.hid (RModule.keep H45.out (w' := w9) (fun p hb => hb9.cell (by have : _ < w.heap.size := hb; (try simp) <;> omega)))
 clear H45
 have H54 := Lib.hid (Rep.keep H46.out (w' := w9) (fun p hb => hb9.cell (by have : _ < w.heap.size := hb; (try simp) <;> omega)))
 clear H46
 have H55 := Lib.hid (H47.out.below hb9 H47.out.lt)
 clear H47
 have H56 := Lib.hid (Sep.keep H48.out (w' := w9) (fun b hb => hb9.block b (by have := hb; simp only [Iv] at this; (try simp) <;> omega)))
 clear H48
 have H57 := Lib.hid (QModule.keep H49.out (w' := w9) (fun b hb => hb9.block b (by have := hb; simp only [Iv] at this; (try simp) <;> omega)))
 clear H49
 have H58 := Lib.hid (H50.out.below hb9 H50.out.lt)
 clear H50
 have H59 := Lib.hid (Sep.keep H51.out (w' := w9) (fun b hb => hb9.block b (by have := hb; simp only [Iv] at this; (try simp) <;> omega)))
 clear H51
 have H60 := Lib.hid (Sep.keep HQw8_0.out (w' := w9) (fun b hb => hb9.block b (by have := hb; simp only [Iv] at this; (try simp) <;> omega)))
 clear HQw8_0
 have HB61 := Lib.hid (HB52.out.trans (hb9.mono (by have := HB52.out.size; (try simp) <;> omega)))
 clear HB52
 clear hb9
 go_wp2_with fail
 refine wp_region_lexC (by kernel_rfl) (by kernel_rfl) (fun x => Below w9.heap.size w9 x) ((Below.refl _ _).drew) (fun lexNE => ?_)
 obtain ⟨cH58_0, cH58_1, cH58_2, cH58_3⟩ := bwS4 (B := w9.heap.size) H58.out H58.out.lt
 obtain ⟨cH55_0, cH55_1, cH55_2, cH55_3⟩ := bwS4 (B := w9.heap.size) H55.out H55.out.lt
 have HL62 := Lib.hid ((Below.refl w9.heap.size w9).drew)
 have H63 := Lib.hid (RModule.keep H53.out (w' := w9.drew) (fun p hb => rfl))
 clear H53
 have H64 := Lib.hid (Rep.keep H54.out (w' := w9.drew) (fun p hb => rfl))
 clear H54
 have H65 := Lib.hid (H55.out.drew)
 clear H55
 have H66 := Lib.hid (Sep.keep H56.out (w' := w9.drew) (fun b hb => rfl))
 clear H56
 have H67 := Lib.hid (QModule.keep H57.out (w' := w9.drew) (fun b hb => rfl))
 clear H57
 have H68 := Lib.hid (H58.out.drew)
 clear H58
 have H69 := Lib.hid (Sep.keep H59.out (w' := w9.drew) (fun b hb => rfl))
 clear H59
 have H70 := Lib.hid (Sep.keep H60.out (w' := w9.drew) (fun b hb => rfl))
 clear H60
 have HB71 := Lib.hid (HB61.out.drew)
 clear HB61
 (repeat (first | (refine lex_r fun K hK => ?_; go_big_quiet_op; refine hK _ ?_; clear hK K) | (refine lex_k fun K hK => ?_; go_simp; refine hK _ ?_; clear hK K)))
 (refine lex_e fun K hK => ?_; go_big_op)
 refine (d_toModule HZ0.out H63.out (fun b hb => by have : _ < w.heap.size := hb; (try simp) <;> omega)).mono ?_
 rintro e w10 ⟨vw10, rfl, hqw10, hb10⟩
 obtain ⟨Aw10_0, nw10_0, cw10_0, Aw10_1, nw10_1, cw10_1, Aw10_2, nw10_2, cw10_2, Aw10_3, nw10_3, cw10_3, rfl⟩ := hqw10.r.form
 have HQw10 := Lib.hid (QModule.mono hqw10 (S' := Iv (w9.heap.size) (w10.heap.size)) (fun b hb => by have := hb; simp [New] at this; exact ⟨by omega, this.2⟩))
 clear hqw10
 have zw10 := hb10.size
 try simp at zw10
 have H72 := Lib.hid (RModule.keep H63.out (w' := w10) (fun p hb => hb10.cell (by have : _ < w.heap.size := hb; (try simp) <;> omega)))
 clear H63
 have H73 := Lib.hid (Rep.keep H64.out (w' := w10) (fun p hb => hb10.cell (by have : _ < w.heap.size := hb; (try simp) <;> omega)))
 clear H64
 have H74 := Lib.hid (H65.out.below hb10 H65.out.lt)
 clear H65
 have H75 := Lib.hid (Sep.keep H66.out (w' := w10) (fun b hb => hb10.block b (by have := hb; simp only [Iv] at this; (try simp) <;> omega)))
 clear H66
 have H76 := Lib.hid (QModule.keep H67.out (w' := w10) (fun b hb => hb10.block b (by have := hb; simp only [Iv] at this; (try simp) <;> omega)))
 clear H67
 have H77 := Lib.hid (H68.out.below hb10 H68.out.lt)
 clear H68
 have H78 := Lib.hid (Sep.keep H69.out (w' := w10) (fun b hb => hb10.block b (by have := hb; simp only [Iv] at this; (try simp) <;> omega)))
 clear H69
 have H79 := Lib.hid (Sep.keep H70.out (w' := w10) (fun b hb => hb10.block b (by have := hb; simp only [Iv] at this; (try simp) <;> omega)))
 clear H70
 have HB80 := Lib.hid (HB71.out.trans (hb10.mono (by have := HB71.out.size; (try simp) <;> omega)))
 clear HB71
 have HL81 := Lib.hid (HL62.out.trans (hb10.mono HL62.out.size))
 clear HL62
 refine hK _ _ (Cls.mk' HL81.out) ?_
 clear hK K hb10
 (repeat (first | (refine lex_r fun K hK => ?_; go_big_quiet_op; refine hK _ ?_; clear hK K) | (refine lex_k fun K hK => ?_; go_simp; refine hK _ ?_; clear hK K)))
 (refine lex_e fun K hK => ?_; go_big_op)
 refine (d_eqModule HZ0.out H76.out.r HQw10.out.r (fun b hb => by have := hb; simp only [Iv] at this; (try simp) <;> omega) (fun b hb => by have := hb; simp only [Iv] at this; (try simp) <;> omega)).mono ?_
 rintro e w11 ⟨rfl, hb11⟩
 have zw11 := hb11.size
 try simp at zw11
 clear HQw10
 have H82 := Lib.hid (RModule.keep H72.out (w' := w11) (fun p hb => hb11.cell (by have : _ < w.heap.size := hb; (try simp) <;> omega)))
 clear H72
 have H83 := Lib.hid (Rep.keep H73.out (w' := w11) (fun p hb => hb11.cell (by have : _ < w.heap.size := hb; (try simp) <;> omega)))
 clear H73
 have H84 := Lib.hid (H74.out.below hb11 H74.out.lt)
 clear H74
 have H85 := Lib.hid (Sep.keep H75.out (w' := w11) (fun b hb => hb11.block b (by have := hb; simp only [Iv] at this; (try simp) <;> omega)))
 clear H75
 have H86 := Lib.hid (QModule.keep H76.out (w' := w11) (fun b hb => hb11.block b (by have := hb; simp only [Iv] at this; (try simp) <;> omega)))
 clear H76
 have H87 := Lib.hid (H77.out.below hb11 H77.out.lt)
 clear H77
 have H88 := Lib.hid (Sep.keep H78.out (w' := w11) (fun b hb => hb11.block b (by have := hb; simp only [Iv] at this; (try simp) <;> omega)))
 clear H78
 have H89 := Lib.hid (Sep.keep H79.out (w' := w11) (fun b hb => hb11.block b (by have := hb; simp only [Iv] at this; (try simp) <;> omega)))
 clear H79
 have HB90 := Lib.hid (HB80.out.trans (hb11.mono (by have := HB80.out.size; (try simp) <;> omega)))
 clear HB80
 have HL91 := Lib.hid (HL81.out.trans (hb11.mono HL81.out.size))
 clear HL81
 refine hK _ _ (Cls.mk' HL91.out) ?_
 clear hK K hb11
 (repeat (first | (refine lex_r fun K hK => ?_; go_big_quiet_op; refine hK _ ?_; clear hK K) | (refine lex_k fun K hK => ?_; go_simp; refine hK _ ?_; clear hK K)))
 (refine lex_nil ?_)
 clear lexNE cH58_0 cH58_1 cH58_2 cH58_3 cH55_0 cH55_1 cH55_2 cH55_3
 go_wp2_with fail
 refine (d_toIntSS HZ1.out H83.out (fun b hb => by have : _ < w.heap.size := hb; (try simp) <;> omega)).mono ?_
 rintro e w12 ⟨vw12, rfl, hqw12, hb12⟩
 obtain ⟨Aw12, nw12, cw12, rfl⟩ := slv_of hqw12.rep
 have HQw12 := Lib.hid (Sep.mono hqw12 (S' := Iv (w11.heap.size) (w12.heap.size)) (fun b hb => by have := hb; simp [New] at this; exact ⟨by omega, this.2⟩))
 clear hqw12
 have zw12 := hb12.size
 try simp at zw12
 have H92 := Lib.hid (RModule.keep H82.out (w' := w12) (fun p hb => hb12.cell (by have : _ < w.heap.size := hb; (try simp) <;> omega)))
 clear H82
 have H93 := Lib.hid (Rep.keep H83.out (w' := w12) (fun p hb => hb12.cell (by have : _ < w.heap.size := hb; (try simp) <;> omega)))
 clear H83
 have H94 := Lib.hid (H84.out.below hb12 H84.out.lt)
 clear H84
 have H95 := Lib.hid (Sep.keep H85.out (w' := w12) (fun b hb => hb12.block b (by have := hb; simp only [Iv] at this; (try simp) <;> omega)))
 clear H85
 have H96 := Lib.hid (QModule.keep H86.out (w' := w12) (fun b hb => hb12.block b (by have := hb; simp only [Iv] at this; (try simp) <;> omega)))
 clear H86
 have H97 := Lib.hid (H87.out.below hb12 H87.out.lt)
 clear H87
 have H98 := Lib.hid (Sep.keep H88.out (w' := w12) (fun b hb => hb12.block b (by have := hb; simp only [Iv] at this; (try simp) <;> omega)))
 clear H88
 have H99 := Lib.hid (Sep.keep H89.out (w' := w12) (fun b hb => hb12.block b (by have := hb; simp only [Iv] at this; (try simp) <;> omega)))
 clear H89
 have HB100 := Lib.hid (HB90.out.trans (hb12.mono (by have := HB90.out.size; (try simp) <;> omega)))
 clear HB90
 clear hb12
 go_wp2_with fail
 refine (d_eqIntSS HZ1.out H98.out.rep HQw12.out.rep (fun b hb => by have := hb; simp only [Iv] at this; (try simp) <;> omega) (fun b hb => by have := hb; simp only [Iv] at this; (try simp) <;> omega)).mono ?_
 rintro e w13 ⟨rfl, hb13⟩
 have zw13 := hb13.size
 try simp at zw13
 clear HQw12
 have H101 := Lib.hid (RModule.keep H92.out (w' := w13) (fun p hb => hb13.cell (by have : _ < w.heap.size := hb; (try simp) <;> omega)))
 clear H92
 have H102 := Lib.hid (Rep.keep H93.out (w' := w13) (fun p hb => hb13.cell (by have : _ < w.heap.size := hb; (try simp) <;> omega)))
 clear H93
 have H103 := Lib.hid (H94.out.below hb13 H94.out.lt)
 clear H94
 have H104 := Lib.hid (Sep.keep H95.out (w' := w13) (fun b hb => hb13.block b (by have := hb; simp only [Iv] at this; (try simp) <;> omega)))
 clear H95
 have H105 := Lib.hid (QModule.keep H96.out (w' := w13) (fun b hb => hb13.block b (by have := hb; simp only [Iv] at this; (try simp) <;> omega)))
 clear H96
 have H106 := Lib.hid (H97.out.below hb13 H97.out.lt)
 clear H97
 have H107 := Lib.hid (Sep.keep H98.out (w' := w13) (fun b hb => hb13.block b (by have := hb; simp only [Iv] at this; (try simp) <;> omega)))
 clear H98
 have H108 := Lib.hid (Sep.keep H99.out (w' := w13) (fun b hb => hb13.block b (by have := hb; simp only [Iv] at this; (try simp) <;> omega)))
 clear H99
 have HB109 := Lib.hid (HB100.out.trans (hb13.mono (by have := HB100.out.size; (try simp) <;> omega)))
 clear HB100
 clear hb13
 obtain ⟨yH106_0, yH106_1, yH106_2, yH106_3⟩ := blkS4 H106.out
 go_wp2_with fail
 have hmb110 : nModule m ≤ 8388608 := by have h1 := nModule_le m; have h2 : sModule m ≤ 1048576 := HZ0.out; omega
 refine (d_markModule (1) (by omega) H105.out (fun b hb => by have := hb; simp only [Iv] at this; (try simp) <;> omega)).mono ?_
 rintro e w14 ⟨rfl, hqw14, hb14⟩
 obtain ⟨mk111, hmk111⟩ : ∃ zz, zz = 1 + nModule m := ⟨_, rfl⟩
 rw [← hmk111]
 have hmk111b : mk111 ≤ 8388609 := by omega
 have HMmk111 := Lib.hid hmk111
 clear hmk111 hmb110
 clear H105
 have zw14 := hb14.size
 try simp at zw14
 clear H106
 have H112 := Lib.hid (RModule.keep H101.out (w' := w14) (fun p hb => hb14.cell (by have : _ < w.heap.size := hb; (try simp) <;> omega) (fun hc => by have := hb; simp only [Iv] at hc; omega)))
 clear H101
 have H113 := Lib.hid (Rep.keep H102.out (w' := w14) (fun p hb => hb14.cell (by have : _ < w.heap.size := hb; (try simp) <;> omega) (fun hc => by have := hb; simp only [Iv] at hc; omega)))
 clear H102
 have H114 := Lib.hid (hb14.blk H103.out (fun hc => by simp only [Iv] at hc; (try simp at hc) <;> omega))
 clear H103
 have H115 := Lib.hid (Sep.keep H104.out (w' := w14) (fun b hb => hb14.block b (by have := hb; simp only [Iv] at this; (try simp) <;> omega) (fun hc => by have := hb; simp only [Iv] at this; simp only [Iv] at hc; omega)))
 clear H104
 have H116 := Lib.hid (Sep.keep H107.out (w' := w14) (fun b hb => hb14.block b (by have := hb; simp only [Iv] at this; (try simp) <;> omega) (fun hc => by have := hb; simp only [Iv] at this; simp only [Iv] at hc; omega)))
 clear H107
 have H117 := Lib.hid (Sep.keep H108.out (w' := w14) (fun b hb => hb14.block b (by have := hb; simp only [Iv] at this; (try simp) <;> omega) (fun hc => by have := hb; simp only [Iv] at this; simp only [Iv] at hc; omega)))
 clear H108
 have HB118 := Lib.hid (HB109.out.trans (hb14.below (by have := HB109.out.size; (try simp) <;> omega) (fun b hb => by simp only [Iv] at hb; omega)))
 clear HB109
 clear hb14
 have HQw14 := Lib.hid hqw14
 clear hqw14
 clear yH106_0 yH106_1 yH106_2 yH106_3
 go_wp2_with fail
 have hmb119 : nuL nIntS ins ≤ 8388608 := by have h1 := nuL_IntS_le ins; have h2 : szL sIntS ins ≤ 1048576 := HZ1.out; omega
 refine (d_markIntSS (mk111) (by omega) H116.out (fun b hb => by have := hb; simp only [Iv] at this; (try simp) <;> omega)).mono ?_
 rintro e w15 ⟨rfl, hqw15, hb15⟩
 obtain ⟨mk120, hmk120⟩ : ∃ zz, zz = mk111 + nuL nIntS ins := ⟨_, rfl⟩
 rw [← hmk120]
 have hmk120b : mk120 ≤ 16777217 := by omega
 have HMmk120 := Lib.hid hmk120
 clear hmk120 hmb119
 clear H116
 have zw15 := hb15.size
 try simp at zw15
 clear HQw14
 have H121 := Lib.hid (RModule.keep H112.out (w' := w15) (fun p hb => hb15.cell (by have : _ < w.heap.size := hb; (try simp) <;> omega) (fun hc => by have := hb; simp only [Iv] at hc; omega)))
 clear H112
 have H122 := Lib.hid (Rep.keep H113.out (w' := w15) (fun p hb => hb15.cell (by have : _ < w.heap.size := hb; (try simp) <;> omega) (fun hc => by have := hb; simp only [Iv] at hc; omega)))
 clear H113
 have H123 := Lib.hid (hb15.blk H114.out (fun hc => by simp only [Iv] at hc; (try simp at hc) <;> omega))
 clear H114
 have H124 := Lib.hid (Sep.keep H115.out (w' := w15) (fun b hb => hb15.block b (by have := hb; simp only [Iv] at this; (try simp) <;> omega) (fun hc => by have := hb; simp only [Iv] at this; simp only [Iv] at hc; omega)))
 clear H115
 have H125 := Lib.hid (Sep.keep H117.out (w' := w15) (fun b hb => hb15.block b (by have := hb; simp only [Iv] at this; (try simp) <;> omega) (fun hc => by have := hb; simp only [Iv] at this; simp only [Iv] at hc; omega)))
 clear H117
 have HB126 := Lib.hid (HB118.out.trans (hb15.below (by have := HB118.out.size; (try simp) <;> omega) (fun b hb => by simp only [Iv] at hb; omega)))
 clear HB118
 clear hb15
 have HQw15 := Lib.hid hqw15
 clear hqw15
 go_wp2_with fail
 refine (d_eqIntSS (trcL_sz m ins) H125.out.rep H124.out.rep (fun b hb => by have := hb; simp only [Iv] at this; (try simp) <;> omega) (fun b hb => by have := hb; simp only [Iv] at this; (try simp) <;> omega)).mono ?_
 rintro e w16 ⟨rfl, hb16⟩
 have zw16 := hb16.size
 try simp at zw16
 clear HQw15
 have H127 := Lib.hid (RModule.keep H121.out (w' := w16) (fun p hb => hb16.cell (by have : _ < w.heap.size := hb; (try simp) <;> omega)))
 clear H121
 have H128 := Lib.hid (Rep.keep H122.out (w' := w16) (fun p hb => hb16.cell (by have : _ < w.heap.size := hb; (try simp) <;> omega)))
 clear H122
 have H129 := Lib.hid (H123.out.below hb16 H123.out.lt)
 clear H123
 have H130 := Lib.hid (Sep.keep H124.out (w' := w16) (fun b hb => hb16.block b (by have := hb; simp only [Iv] at this; (try simp) <;> omega)))
 clear H124
 have H131 := Lib.hid (Sep.keep H125.out (w' := w16) (fun b hb => hb16.block b (by have := hb; simp only [Iv] at this; (try simp) <;> omega)))
 clear H125
 have HB132 := Lib.hid (HB126.out.trans (hb16.mono (by have := HB126.out.size; (try simp) <;> omega)))
 clear HB126
 clear hb16
 go_wp2_with fail
 have hmb133 : nuL nIntS (trcL m ins) ≤ 8388608 := by have h1 := nuL_IntS_le (trcL m ins); have h2 : szL sIntS (trcL m ins) ≤ 1048576 := trcL_sz m ins; omega
 refine (d_markIntSS (1) (by omega) H131.out (fun b hb => by have := hb; simp only [Iv] at this; (try simp) <;> omega)).mono ?_
 rintro e w17 ⟨rfl, hqw17, hb17⟩
 obtain ⟨mk134, hmk134⟩ : ∃ zz, zz = 1 + nuL nIntS (trcL m ins) := ⟨_, rfl⟩
 rw [← hmk134]
 have hmk134b : mk134 ≤ 25165825 := by omega
 have HMmk134 := Lib.hid hmk134
 clear hmk134 hmb133
 clear H131
 have zw17 := hb17.size
 try simp at zw17
 have H135 := Lib.hid (RModule.keep H127.out (w' := w17) (fun p hb => hb17.cell (by have : _ < w.heap.size := hb; (try simp) <;> omega) (fun hc => by have := hb; simp only [Iv] at hc; omega)))
 clear H127
 have H136 := Lib.hid (Rep.keep H128.out (w' := w17) (fun p hb => hb17.cell (by have : _ < w.heap.size := hb; (try simp) <;> omega) (fun hc => by have := hb; simp only [Iv] at hc; omega)))
 clear H128
 have H137 := Lib.hid (hb17.blk H129.out (fun hc => by simp only [Iv] at hc; (try simp at hc) <;> omega))
 clear H129
 have H138 := Lib.hid (Sep.keep H130.out (w' := w17) (fun b hb => hb17.block b (by have := hb; simp only [Iv] at this; (try simp) <;> omega) (fun hc => by have := hb; simp only [Iv] at this; simp only [Iv] at hc; omega)))
 clear H130
 have HB139 := Lib.hid (HB132.out.trans (hb17.below (by have := HB132.out.size; (try simp) <;> omega) (fun b hb => by simp only [Iv] at hb; omega)))
 clear HB132
 clear hb17
 have HQw17 := Lib.hid hqw17
 clear hqw17
 go_wp2_with fail
 have hmb140 : 1 + nuL nIntS (trcL m ins) ≤ 1099511627776 := by rw [← HMmk134.out]; omega
 refine (d_heldIntSS (1) (by omega) HQw17.out.rep (fun b hb => by have := hb; simp only [Iv] at this; (try simp) <;> omega)).mono ?_
 rintro e w18 ⟨rfl, hb18⟩
 rw [← HMmk134.out]
 clear hmb140
 have zw18 := hb18.size
 try simp at zw18
 have H141 := Lib.hid (RModule.keep H135.out (w' := w18) (fun p hb => hb18.cell (by have : _ < w.heap.size := hb; (try simp) <;> omega)))
 clear H135
 have H142 := Lib.hid (Rep.keep H136.out (w' := w18) (fun p hb => hb18.cell (by have : _ < w.heap.size := hb; (try simp) <;> omega)))
 clear H136
 have H143 := Lib.hid (H137.out.below hb18 H137.out.lt)
 clear H137
 have H144 := Lib.hid (Sep.keep H138.out (w' := w18) (fun b hb => hb18.block b (by have := hb; simp only [Iv] at this; (try simp) <;> omega)))
 clear H138
 have H145 := Lib.hid (Sep.keep HQw17.out (w' := w18) (fun b hb => hb18.block b (by have := hb; simp only [Iv] at this; (try simp) <;> omega)))
 clear HQw17
 have HB146 := Lib.hid (HB139.out.trans (hb18.mono (by have := HB139.out.size; (try simp) <;> omega)))
 clear HB139
 clear hb18
 obtain ⟨yH143_0, yH143_1, yH143_2, yH143_3⟩ := blkS4 H143.out
 go_wp2_with fail
 refine (d_toModule HZ0.out H141.out (fun b hb => by have : _ < w.heap.size := hb; (try simp) <;> omega)).mono ?_
 rintro e w19 ⟨vw19, rfl, hqw19, hb19⟩
 obtain ⟨Aw19_0, nw19_0, cw19_0, Aw19_1, nw19_1, cw19_1, Aw19_2, nw19_2, cw19_2, Aw19_3, nw19_3, cw19_3, rfl⟩ := hqw19.r.form
 have HQw19 := Lib.hid (QModule.mono hqw19 (S' := Iv (w18.heap.size) (w19.heap.size)) (fun b hb => by have := hb; simp [New] at this; exact ⟨by omega, this.2⟩))
 clear hqw19
 have zw19 := hb19.size
 try simp at zw19
 clear H141 H143
 have H147 := Lib.hid (Rep.keep H142.out (w' := w19) (fun p hb => hb19.cell (by have : _ < w.heap.size := hb; (try simp) <;> omega)))
 clear H142
 have H148 := Lib.hid (Sep.keep H144.out (w' := w19) (fun b hb => hb19.block b (by have := hb; simp only [Iv] at this; (try simp) <;> omega)))
 clear H144
 have H149 := Lib.hid (Sep.keep H145.out (w' := w19) (fun b hb => hb19.block b (by have := hb; simp only [Iv] at this; (try simp) <;> omega)))
 clear H145
 have HB150 := Lib.hid (HB146.out.trans (hb19.mono (by have := HB146.out.size; (try simp) <;> omega)))
 clear HB146
 clear hb19
 clear yH143_0 yH143_1 yH143_2 yH143_3
 go_wp2_with fail
 refine (d_toIntSS HZ1.out H147.out (fun b hb => by have : _ < w.heap.size := hb; (try simp) <;> omega)).mono ?_
 rintro e w20 ⟨vw20, rfl, hqw20, hb20⟩
 obtain ⟨Aw20, nw20, cw20, rfl⟩ := slv_of hqw20.rep
 have HQw20 := Lib.hid (Sep.mono hqw20 (S' := Iv (w19.heap.size) (w20.heap.size)) (fun b hb => by have := hb; simp [New] at this; exact ⟨by omega, this.2⟩))
 clear hqw20
 have zw20 := hb20.size
 try simp at zw20
 clear H147
 have H151 := Lib.hid (Sep.keep H148.out (w' := w20) (fun b hb => hb20.block b (by have := hb; simp only [Iv] at this; (try simp) <;> omega)))
 clear H148
 have H152 := Lib.hid (Sep.keep H149.out (w' := w20) (fun b hb => hb20.block b (by have := hb; simp only [Iv] at this; (try simp) <;> omega)))
 clear H149
 have H153 := Lib.hid (QModule.keep HQw19.out (w' := w20) (fun b hb => hb20.block b (by have := hb; simp only [Iv] at this; (try simp) <;> omega)))
 clear HQw19
 have HB154 := Lib.hid (HB150.out.trans (hb20.mono (by have := HB150.out.size; (try simp) <;> omega)))
 clear HB150
 clear hb20
 go_wp2_with fail
 refine (i_FlatTrace HZ0.out H153.out.r (fun b hb => by have := hb; simp only [Iv] at this; (try simp) <;> omega) HQw20.out.rep (fun b hb => by have := hb; simp only [Iv] at this; (try simp) <;> omega)).mono ?_
 rintro e w21 ⟨vw21_0, rfl, hqw21_0, hb21⟩
 obtain ⟨Aw21_0, nw21_0, cw21_0, rfl⟩ := slv_of hqw21_0.rep
 have HQw21_0 := Lib.hid (Sep.mono hqw21_0 (S' := Iv (w20.heap.size) (w21.heap.size)) (fun b hb => by have := hb; simp [New] at this; exact ⟨by omega, this.2⟩))
 clear hqw21_0
 have zw21 := hb21.size
 try simp at zw21
 clear H153 HQw20
 have H155 := Lib.hid (Sep.keep H151.out (w' := w21) (fun b hb => hb21.block b (by have := hb; simp only [Iv] at this; (try simp) <;> omega)))
 clear H151
 have H156 := Lib.hid (Sep.keep H152.out (w' := w21) (fun b hb => hb21.block b (by have := hb; simp only [Iv] at this; (try simp) <;> omega)))
 clear H152
 have HB157 := Lib.hid (HB154.out.trans (hb21.mono (by have := HB154.out.size; (try simp) <;> omega)))
 clear HB154
 clear hb21
 go_wp2_with fail
 refine (d_eqIntSS (trcL_sz m ins) HQw21_0.out.rep H155.out.rep (fun b hb => by have := hb; simp only [Iv] at this; (try simp) <;> omega) (fun b hb => by have := hb; simp only [Iv] at this; (try simp) <;> omega)).mono ?_
 rintro e w22 ⟨rfl, hb22⟩
 have zw22 := hb22.size
 try simp at zw22
 clear H155 HQw21_0
 have H158 := Lib.hid (Sep.keep H156.out (w' := w22) (fun b hb => hb22.block b (by have := hb; simp only [Iv] at this; (try simp) <;> omega)))
 clear H156
 have HB159 := Lib.hid (HB157.out.trans (hb22.mono (by have := HB157.out.size; (try simp) <;> omega)))
 clear HB157
 clear hb22
 go_wp2_with fail
 have hmb160 : 1 + nuL nIntS (trcL m ins) ≤ 1099511627776 := by rw [← HMmk134.out]; omega
 refine (d_heldIntSS (1) (by omega) H158.out.rep (fun b hb => by have := hb; simp only [Iv] at this; (try simp) <;> omega)).mono ?_
 rintro e w23 ⟨rfl, hb23⟩
 rw [← HMmk134.out]
 clear hmb160
 have zw23 := hb23.size
 try simp at zw23
 clear H158
 have HB161 := Lib.hid (HB159.out.trans (hb23.mono (by have := HB159.out.size; (try simp) <;> omega)))
 clear HB159
 clear hb23
 go_wp2_with fail
 go_ret
 exact ⟨rfl, HB161.out⟩
set_option maxRecDepth 100000 in
theorem lifted_FnExactFlatTrace (os : Os) (started : os.Started) (H : Type) (enc : TypeId × Value → H) :
  ReturnsInHanded {} Try.checked os 4 .any (Rows.fnExactFlatTraceSpec.pre6 enc Try.prog Try.f4 Rows.fnExactFlatTraceRow.domain false) (Rows.fnExactFlatTraceSpec.post enc Try.prog Try.f4 false true false false) := by
 refine lift (F := 4) (fn := Try.f4) (s := Rows.fnExactFlatTraceSpec) (conds := Rows.fnExactFlatTraceRow.domain) (by kernel_rfl) Try.func4 (by kernel_rfl) rfl (by kernel_rfl) ?_ ?_ os started H enc
  (ChangeSpec.witness6 (enc := enc) (C := Try.checked) false ⟨#[], #[.agg #[.slice none 0 0, .slice none 0 0, .slice none 0 0, .slice none 0 0], .slice none 0 0], []⟩ 8 (by kernel_rfl) (by kernel_rfl) (by kernel_rfl) (by kernel_rfl))
 ·intro H ds hl
  rw [Try.params4] at hl
  match ds, hl with
  | [d0, d1], _ => exact ⟨rfl, rfl, rfl⟩
 ·intro W base args H enc ds p hval hA hlt
  rw [Try.params4] at hA hval
  obtain ⟨v0, vs0, e0, es0, p0, q0, hargs, rfl, rfl, h0, r0⟩ := trodAll_cons hA
  obtain ⟨v1, vs1, e1, es1, p1, q1, rfl, rfl, rfl, h1, r1⟩ := trodAll_cons r0
  obtain ⟨rfl, rfl, rfl⟩ := trodAll_nil r1
  obtain rfl : args = #[v0, v1] := by cases args; simp_all
  obtain ⟨x0, w0⟩ := op_Module (hval 0 27 v0 rfl rfl) h0 (fun x hx => hlt x (by simp [hx]))
  obtain ⟨x1, w1⟩ := op_IntSS (hval 1 52 v1 rfl rfl) h1 (fun x hx => hlt x (by simp [hx]))
  exact walk_FnExactFlatTrace v0 x0 v1 x1 W w0 w1
theorem facts_FnExactFlatTrace : joinedFacts Try.pinned.checked.prog 4 Try.f4 Rows.fnExactFlatTraceSpec Rows.fnExactFlatTraceRow = true :=
 facts_of (P := Try.prog) mayE liftE makeE rfl rfl (by kernel_rfl) (by kernel_rfl) (by kernel_rfl) (by kernel_rfl) (by kernel_rfl) (by kernel_rfl) (by kernel_rfl) (by kernel_rfl) (by kernel_rfl) (by kernel_rfl) (by kernel_rfl) (by kernel_rfl) (by kernel_rfl) rfl rfl (by kernel_rfl) (by kernel_rfl) (by kernel_rfl) (by kernel_rfl) (by kernel_rfl) (by kernel_rfl) (by kernel_rfl) (by kernel_rfl) (by kernel_rfl) (by kernel_rfl) (by kernel_rfl) rfl rfl (by kernel_rfl) (by kernel_rfl) (by kernel_rfl)
theorem over_FnExactFlatTrace : Rows.fnExactFlatTraceRow.holds Try.pinned (OpenSpec.ofChange Rows.fnExactFlatTraceSpec) :=
 OpenClaim.holds_of_wide 4 Try.f4 rfl rfl rfl rfl rfl rfl rfl ⟨rfl, rfl, rfl, rfl, rfl⟩ rfl rfl rfl rfl rfl (by kernel_rfl) Try.func4 facts_FnExactFlatTrace
  (of_decide_eq_true (by kernel_rfl)) (by unfold Func.isWrapper; first | (rw [if_pos (by decide +kernel)]; kernel_rfl) | (rw [if_neg (by decide +kernel)]; exact ⟨rfl, rfl⟩))
  (fun os started H enc _ => lifted_FnExactFlatTrace os started H enc)
theorem FnExactFlatTrace_holds : Rows.FnExactFlatTraceSaid := over_FnExactFlatTrace
end Go.Proofs.Ytjkdgedgfkgjdaa
