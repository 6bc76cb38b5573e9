/- Law of the first state: for every module the program's FlatStart returns the reference's state, in memory of its own. Conditions: none. -/
import Derived.Test.YtjiijjihkgipkaaFrame9
import Derived.Test.YtjiijjihkgipkaaFstS
import Derived.Test.YtjiijjihkgipkaaGa
import Derived.Outline
namespace Go.Proofs.Ytjiijjihkgipkaa
open Go.ChangeShapes Go.WideShapes Go.ChangeAt Go.RowKit

set_option maxRecDepth 100000 in
set_option maxHeartbeats 8000000 in
theorem walk_FnExactFlatStart (v0 : Value) (m : TModule) (w : World) (h0 : RModule (w) (fun b => b < w.heap.size) (v0) m ∧ WfModule m) :
    Calls Try.prog 11 #[v0] w fun e w' => e = .returned (.bool true) ∧ Below w.heap.size w w' := by
  obtain ⟨h0, wf0⟩ := h0
  have WF0 := Lib.hid wf0
  clear wf0
  obtain ⟨Aa0_0, na0_0, ca0_0, Aa0_1, na0_1, ca0_1, Aa0_2, na0_2, ca0_2, Aa0_3, na0_3, ca0_3, rfl⟩ := h0.form
  have HB0 := Lib.hid (Below.refl w.heap.size w)
  have HR0 := Lib.hid h0
  clear h0
  go_enter Try.func11, Try.ntmps11
  have H2 := Lib.hid (RModule.keep HR0.out (w' := (w.alloc (.cells #[.slice Aa0_0 na0_0 ca0_0, .slice Aa0_1 na0_1 ca0_1, .slice Aa0_2 na0_2 ca0_2, .slice Aa0_3 na0_3 ca0_3] 42))) (fun p hb => World.cell?_alloc_lt _ _ p (by have : _ < w.heap.size := hb; (try simp) <;> omega)))
  clear HR0
  have HB3 := Lib.hid (HB0.out.alloc (by have := HB0.out.size; (try simp) <;> omega) (.cells #[.slice Aa0_0 na0_0 ca0_0, .slice Aa0_1 na0_1 ca0_1, .slice Aa0_2 na0_2 ca0_2, .slice Aa0_3 na0_3 ca0_3] 42))
  clear HB0
  have HX1 := Lib.hid (show Blk (w.alloc (.cells #[.slice Aa0_0 na0_0 ca0_0, .slice Aa0_1 na0_1 ca0_1, .slice Aa0_2 na0_2 ca0_2, .slice Aa0_3 na0_3 ca0_3] 42)) (w.heap.size) 42 #[.slice Aa0_0 na0_0 ca0_0, .slice Aa0_1 na0_1 ca0_1, .slice Aa0_2 na0_2 ca0_2, .slice Aa0_3 na0_3 ca0_3] from by have h := Blk.new (w) 42 #[.slice Aa0_0 na0_0 ca0_0, .slice Aa0_1 na0_1 ca0_1, .slice Aa0_2 na0_2 ca0_2, .slice Aa0_3 na0_3 ca0_3]; simpa using h)
  obtain ⟨yHX1_0, yHX1_1, yHX1_2, yHX1_3⟩ := blkS4 HX1.out
  go_wp2_with fail
  refine (d_szModule (1048576) (by omega) H2.out (fun b hb => by have : _ < w.heap.size := hb; (try simp) <;> omega)).mono ?_
  rintro e w1 ⟨rfl, hb1⟩
  obtain ⟨cz0, hcz0⟩ : ∃ zz, zz = sModule m := ⟨_, rfl⟩
  rw [← hcz0]
  have zw1 := hb1.size
  try simp at zw1
  have H4 := Lib.hid (RModule.keep H2.out (w' := w1) (fun p hb => hb1.cell (by have : _ < w.heap.size := hb; (try simp) <;> omega)))
  clear H2
  have H5 := Lib.hid (HX1.out.below hb1 HX1.out.lt)
  clear HX1
  have HB6 := Lib.hid (HB3.out.trans (hb1.mono (by have := HB3.out.size; (try simp) <;> omega)))
  clear HB3
  clear hb1
  by_cases bcz0 : cz0 ≤ 1048576
  rotate_left
  · rw [leftD_no bcz0]
    clear hcz0
    go_wp2_with fail
    go_ret
    exact ⟨rfl, HB6.out⟩
  obtain ⟨lf0, hlf0⟩ : ∃ zz, zz = 1048576 - cz0 := ⟨_, rfl⟩
  rw [leftD_yes bcz0, ← hlf0]
  have HZ0 := Lib.hid (show sModule m ≤ 1048576 by rw [← hcz0]; omega)
  have hllf0 : lf0 ≤ 1048576 := by omega
  clear hcz0 bcz0 hlf0
  clear yHX1_0 yHX1_1 yHX1_2 yHX1_3
  obtain ⟨yH5_0, yH5_1, yH5_2, yH5_3⟩ := blkS4 H5.out
  go_wp2_with fail
  refine (d_toModule HZ0.out H4.out (fun b hb => by have : _ < w.heap.size := hb; (try simp) <;> omega)).mono ?_
  rintro e w2 ⟨vw2, rfl, hqw2, hb2⟩
  obtain ⟨Aw2_0, nw2_0, cw2_0, Aw2_1, nw2_1, cw2_1, Aw2_2, nw2_2, cw2_2, Aw2_3, nw2_3, cw2_3, rfl⟩ := hqw2.r.form
  have HQw2 := Lib.hid (QModule.mono hqw2 (S' := Iv (w1.heap.size) (w2.heap.size)) (fun b hb => by have := hb; simp [New] at this; exact ⟨by omega, this.2⟩))
  clear hqw2
  have zw2 := hb2.size
  try simp at zw2
  have H7 := Lib.hid (RModule.keep H4.out (w' := w2) (fun p hb => hb2.cell (by have : _ < w.heap.size := hb; (try simp) <;> omega)))
  clear H4
  have H8 := Lib.hid (H5.out.below hb2 H5.out.lt)
  clear H5
  have HB9 := Lib.hid (HB6.out.trans (hb2.mono (by have := HB6.out.size; (try simp) <;> omega)))
  clear HB6
  clear hb2
  clear yH5_0 yH5_1 yH5_2 yH5_3
  go_wp2_with fail
  refine (s_FlatStart HZ0.out HQw2.out.r (fun b hb => by have := hb; simp only [Iv] at this; (try simp) <;> omega)).mono ?_
  rintro e w3 ⟨vw3_0, rfl, hqw3_0, hb3⟩
  obtain ⟨Aw3_0_0, nw3_0_0, cw3_0_0, Aw3_0_1, nw3_0_1, cw3_0_1, rfl⟩ := hqw3_0.r.form
  have HQw3_0 := Lib.hid (QWordState.mono hqw3_0 (S' := Iv (w2.heap.size) (w3.heap.size)) (fun b hb => by have := hb; simp [New] at this; exact ⟨by omega, this.2⟩))
  clear hqw3_0
  have zw3 := hb3.size
  try simp at zw3
  have H10 := Lib.hid (RModule.keep H7.out (w' := w3) (fun p hb => hb3.cell (by have : _ < w.heap.size := hb; (try simp) <;> omega)))
  clear H7
  have H11 := Lib.hid (H8.out.below hb3 H8.out.lt)
  clear H8
  have H12 := Lib.hid (QModule.keep HQw2.out (w' := w3) (fun b hb => hb3.block b (by have := hb; simp only [Iv] at this; (try simp) <;> omega)))
  clear HQw2
  have HB13 := Lib.hid (HB9.out.trans (hb3.mono (by have := HB9.out.size; (try simp) <;> omega)))
  clear HB9
  clear hb3
  have H15 := Lib.hid (RModule.keep H10.out (w' := (w3.alloc (.cells #[.slice Aw3_0_0 nw3_0_0 cw3_0_0, .slice Aw3_0_1 nw3_0_1 cw3_0_1] 69))) (fun p hb => World.cell?_alloc_lt _ _ p (by have : _ < w.heap.size := hb; (try simp) <;> omega)))
  clear H10
  have H16 := Lib.hid (H11.out.alloc (.cells #[.slice Aw3_0_0 nw3_0_0 cw3_0_0, .slice Aw3_0_1 nw3_0_1 cw3_0_1] 69))
  clear H11
  have H17 := Lib.hid (QModule.keep H12.out (w' := (w3.alloc (.cells #[.slice Aw3_0_0 nw3_0_0 cw3_0_0, .slice Aw3_0_1 nw3_0_1 cw3_0_1] 69))) (fun b hb => Below.heap_alloc _ _ b (by have := hb; simp only [Iv] at this; (try simp) <;> omega)))
  clear H12
  have H18 := Lib.hid (QWordState.keep HQw3_0.out (w' := (w3.alloc (.cells #[.slice Aw3_0_0 nw3_0_0 cw3_0_0, .slice Aw3_0_1 nw3_0_1 cw3_0_1] 69))) (fun b hb => Below.heap_alloc _ _ b (by have := hb; simp only [Iv] at this; (try simp) <;> omega)))
  clear HQw3_0
  have HB19 := Lib.hid (HB13.out.alloc (by have := HB13.out.size; (try simp) <;> omega) (.cells #[.slice Aw3_0_0 nw3_0_0 cw3_0_0, .slice Aw3_0_1 nw3_0_1 cw3_0_1] 69))
  clear HB13
  have HX14 := Lib.hid (show Blk (w3.alloc (.cells #[.slice Aw3_0_0 nw3_0_0 cw3_0_0, .slice Aw3_0_1 nw3_0_1 cw3_0_1] 69)) (w3.heap.size) 69 #[.slice Aw3_0_0 nw3_0_0 cw3_0_0, .slice Aw3_0_1 nw3_0_1 cw3_0_1] from by have h := Blk.new (w3) 69 #[.slice Aw3_0_0 nw3_0_0 cw3_0_0, .slice Aw3_0_1 nw3_0_1 cw3_0_1]; simpa using h)
  obtain ⟨yH16_0, yH16_1, yH16_2, yH16_3⟩ := blkS4 H16.out
  go_wp2_with fail
  refine (d_toModule HZ0.out H15.out (fun b hb => by have : _ < w.heap.size := hb; (try simp) <;> omega)).mono ?_
  rintro e w4 ⟨vw4, rfl, hqw4, hb4⟩
  obtain ⟨Aw4_0, nw4_0, cw4_0, Aw4_1, nw4_1, cw4_1, Aw4_2, nw4_2, cw4_2, Aw4_3, nw4_3, cw4_3, rfl⟩ := hqw4.r.form
  have HQw4 := Lib.hid (QModule.mono hqw4 (S' := Iv (w3.heap.size + 1) (w4.heap.size)) (fun b hb => by have := hb; simp [New] at this; exact ⟨by omega, this.2⟩))
  clear hqw4
  have zw4 := hb4.size
  try simp at zw4
  have H20 := Lib.hid (RModule.keep H15.out (w' := w4) (fun p hb => hb4.cell (by have : _ < w.heap.size := hb; (try simp) <;> omega)))
  clear H15
  have H21 := Lib.hid (H16.out.below hb4 H16.out.lt)
  clear H16
  have H22 := Lib.hid (QModule.keep H17.out (w' := w4) (fun b hb => hb4.block b (by have := hb; simp only [Iv] at this; (try simp) <;> omega)))
  clear H17
  have H23 := Lib.hid (QWordState.keep H18.out (w' := w4) (fun b hb => hb4.block b (by have := hb; simp only [Iv] at this; (try simp) <;> omega)))
  clear H18
  have H24 := Lib.hid (HX14.out.below hb4 HX14.out.lt)
  clear HX14
  have HB25 := Lib.hid (HB19.out.trans (hb4.mono (by have := HB19.out.size; (try simp) <;> omega)))
  clear HB19
  clear hb4
  have H27 := Lib.hid (RModule.keep H20.out (w' := (w4.alloc (.cells #[.slice Aw4_0 nw4_0 cw4_0, .slice Aw4_1 nw4_1 cw4_1, .slice Aw4_2 nw4_2 cw4_2, .slice Aw4_3 nw4_3 cw4_3] 52))) (fun p hb => World.cell?_alloc_lt _ _ p (by have : _ < w.heap.size := hb; (try simp) <;> omega)))
  clear H20
  have H28 := Lib.hid (H21.out.alloc (.cells #[.slice Aw4_0 nw4_0 cw4_0, .slice Aw4_1 nw4_1 cw4_1, .slice Aw4_2 nw4_2 cw4_2, .slice Aw4_3 nw4_3 cw4_3] 52))
  clear H21
  have H29 := Lib.hid (QModule.keep H22.out (w' := (w4.alloc (.cells #[.slice Aw4_0 nw4_0 cw4_0, .slice Aw4_1 nw4_1 cw4_1, .slice Aw4_2 nw4_2 cw4_2, .slice Aw4_3 nw4_3 cw4_3] 52))) (fun b hb => Below.heap_alloc _ _ b (by have := hb; simp only [Iv] at this; (try simp) <;> omega)))
  clear H22
  have H30 := Lib.hid (QWordState.keep H23.out (w' := (w4.alloc (.cells #[.slice Aw4_0 nw4_0 cw4_0, .slice Aw4_1 nw4_1 cw4_1, .slice Aw4_2 nw4_2 cw4_2, .slice Aw4_3 nw4_3 cw4_3] 52))) (fun b hb => Below.heap_alloc _ _ b (by have := hb; simp only [Iv] at this; (try simp) <;> omega)))
  clear H23
  have H31 := Lib.hid (H24.out.alloc (.cells #[.slice Aw4_0 nw4_0 cw4_0, .slice Aw4_1 nw4_1 cw4_1, .slice Aw4_2 nw4_2 cw4_2, .slice Aw4_3 nw4_3 cw4_3] 52))
  clear H24
  have H32 := Lib.hid (QModule.keep HQw4.out (w' := (w4.alloc (.cells #[.slice Aw4_0 nw4_0 cw4_0, .slice Aw4_1 nw4_1 cw4_1, .slice Aw4_2 nw4_2 cw4_2, .slice Aw4_3 nw4_3 cw4_3] 52))) (fun b hb => Below.heap_alloc _ _ b (by have := hb; simp only [Iv] at this; (try simp) <;> omega)))
  clear HQw4
  have HB33 := Lib.hid (HB25.out.alloc (by have := HB25.out.size; (try simp) <;> omega) (.cells #[.slice Aw4_0 nw4_0 cw4_0, .slice Aw4_1 nw4_1 cw4_1, .slice Aw4_2 nw4_2 cw4_2, .slice Aw4_3 nw4_3 cw4_3] 52))
  clear HB25
  have HX26 := Lib.hid (show Blk (w4.alloc (.cells #[.slice Aw4_0 nw4_0 cw4_0, .slice Aw4_1 nw4_1 cw4_1, .slice Aw4_2 nw4_2 cw4_2, .slice Aw4_3 nw4_3 cw4_3] 52)) (w4.heap.size) 52 #[.slice Aw4_0 nw4_0 cw4_0, .slice Aw4_1 nw4_1 cw4_1, .slice Aw4_2 nw4_2 cw4_2, .slice Aw4_3 nw4_3 cw4_3] from by have h := Blk.new (w4) 52 #[.slice Aw4_0 nw4_0 cw4_0, .slice Aw4_1 nw4_1 cw4_1, .slice Aw4_2 nw4_2 cw4_2, .slice Aw4_3 nw4_3 cw4_3]; simpa using h)
  clear yH16_0 yH16_1 yH16_2 yH16_3
  obtain ⟨yHX26_0, yHX26_1, yHX26_2, yHX26_3⟩ := blkS4 HX26.out
  go_wp2_with fail
  refine (i_FlatStart HZ0.out H32.out.r (fun b hb => by have := hb; simp only [Iv] at this; (try simp) <;> omega)).mono ?_
  rintro e w5 ⟨vw5_0, rfl, hqw5_0, hb5⟩
  obtain ⟨Aw5_0_0, nw5_0_0, cw5_0_0, Aw5_0_1, nw5_0_1, cw5_0_1, rfl⟩ := hqw5_0.r.form
  have HQw5_0 := Lib.hid (QWordState.mono hqw5_0 (S' := Iv (w4.heap.size + 1) (w5.heap.size)) (fun b hb => by have := hb; simp [New] at this; exact ⟨by omega, this.2⟩))
  clear hqw5_0
  have zw5 := hb5.size
  try simp at zw5
  have H34 := Lib.hid (RModule.keep H27.out (w' := w5) (fun p hb => hb5.cell (by have : _ < w.heap.size := hb; (try simp) <;> omega)))
  clear H27
  have H35 := Lib.hid (H28.out.below hb5 H28.out.lt)
  clear H28
  have H36 := Lib.hid (QModule.keep H29.out (w' := w5) (fun b hb => hb5.block b (by have := hb; simp only [Iv] at this; (try simp) <;> omega)))
  clear H29
  have H37 := Lib.hid (QWordState.keep H30.out (w' := w5) (fun b hb => hb5.block b (by have := hb; simp only [Iv] at this; (try simp) <;> omega)))
  clear H30
  have H38 := Lib.hid (H31.out.below hb5 H31.out.lt)
  clear H31
  have H39 := Lib.hid (QModule.keep H32.out (w' := w5) (fun b hb => hb5.block b (by have := hb; simp only [Iv] at this; (try simp) <;> omega)))
  clear H32
  have H40 := Lib.hid (HX26.out.below hb5 HX26.out.lt)
  clear HX26
  have HB41 := Lib.hid (HB33.out.trans (hb5.mono (by have := HB33.out.size; (try simp) <;> omega)))
  clear HB33
  clear hb5
  have H43 := Lib.hid (RModule.keep H34.out (w' := (w5.alloc (.cells #[.slice Aw5_0_0 nw5_0_0 cw5_0_0, .slice Aw5_0_1 nw5_0_1 cw5_0_1] 69))) (fun p hb => World.cell?_alloc_lt _ _ p (by have : _ < w.heap.size := hb; (try simp) <;> omega)))
  clear H34
  have H44 := Lib.hid (H35.out.alloc (.cells #[.slice Aw5_0_0 nw5_0_0 cw5_0_0, .slice Aw5_0_1 nw5_0_1 cw5_0_1] 69))
  clear H35
  have H45 := Lib.hid (QModule.keep H36.out (w' := (w5.alloc (.cells #[.slice Aw5_0_0 nw5_0_0 cw5_0_0, .slice Aw5_0_1 nw5_0_1 cw5_0_1] 69))) (fun b hb => Below.heap_alloc _ _ b (by have := hb; simp only [Iv] at this; (try simp) <;> omega)))
  clear H36
  have H46 := Lib.hid (QWordState.keep H37.out (w' := (w5.alloc (.cells #[.slice Aw5_0_0 nw5_0_0 cw5_0_0, .slice Aw5_0_1 nw5_0_1 cw5_0_1] 69))) (fun b hb => Below.heap_alloc _ _ b (by have := hb; simp only [Iv] at this; (try simp) <;> omega)))
  clear H37
  have H47 := Lib.hid (H38.out.alloc (.cells #[.slice Aw5_0_0 nw5_0_0 cw5_0_0, .slice Aw5_0_1 nw5_0_1 cw5_0_1] 69))
  clear H38
  have H48 := Lib.hid (QModule.keep H39.out (w' := (w5.alloc (.cells #[.slice Aw5_0_0 nw5_0_0 cw5_0_0, .slice Aw5_0_1 nw5_0_1 cw5_0_1] 69))) (fun b hb => Below.heap_alloc _ _ b (by have := hb; simp only [Iv] at this; (try simp) <;> omega)))
  clear H39
  have H49 := Lib.hid (H40.out.alloc (.cells #[.slice Aw5_0_0 nw5_0_0 cw5_0_0, .slice Aw5_0_1 nw5_0_1 cw5_0_1] 69))
  clear H40
  have H50 := Lib.hid (QWordState.keep HQw5_0.out (w' := (w5.alloc (.cells #[.slice Aw5_0_0 nw5_0_0 cw5_0_0, .slice Aw5_0_1 nw5_0_1 cw5_0_1] 69))) (fun b hb => Below.heap_alloc _ _ b (by have := hb; simp only [Iv] at this; (try simp) <;> omega)))
  clear HQw5_0
  have HB51 := Lib.hid (HB41.out.alloc (by have := HB41.out.size; (try simp) <;> omega) (.cells #[.slice Aw5_0_0 nw5_0_0 cw5_0_0, .slice Aw5_0_1 nw5_0_1 cw5_0_1] 69))
  clear HB41
  have HX42 := Lib.hid (show Blk (w5.alloc (.cells #[.slice Aw5_0_0 nw5_0_0 cw5_0_0, .slice Aw5_0_1 nw5_0_1 cw5_0_1] 69)) (w5.heap.size) 69 #[.slice Aw5_0_0 nw5_0_0 cw5_0_0, .slice Aw5_0_1 nw5_0_1 cw5_0_1] from by have h := Blk.new (w5) 69 #[.slice Aw5_0_0 nw5_0_0 cw5_0_0, .slice Aw5_0_1 nw5_0_1 cw5_0_1]; simpa using h)
  clear yHX26_0 yHX26_1 yHX26_2 yHX26_3
  obtain ⟨yHX42_0, yHX42_1⟩ := blkS2 HX42.out
  obtain ⟨yH47_0, yH47_1⟩ := blkS2 H47.out
  go_wp2_with fail
  refine (d_eqWordState (startS_sz m) H50.out.r H46.out.r (fun b hb => by have := hb; simp only [Iv] at this; (try simp) <;> omega) (fun b hb => by have := hb; simp only [Iv] at this; (try simp) <;> omega)).mono ?_
  rintro e w6 ⟨rfl, hb6⟩
  have zw6 := hb6.size
  try simp at zw6
  have H52 := Lib.hid (RModule.keep H43.out (w' := w6) (fun p hb => hb6.cell (by have : _ < w.heap.size := hb; (try simp) <;> omega)))
  clear H43
  have H53 := Lib.hid (H44.out.below hb6 H44.out.lt)
  clear H44
  have H54 := Lib.hid (QModule.keep H45.out (w' := w6) (fun b hb => hb6.block b (by have := hb; simp only [Iv] at this; (try simp) <;> omega)))
  clear H45
  have H55 := Lib.hid (QWordState.keep H46.out (w' := w6) (fun b hb => hb6.block b (by have := hb; simp only [Iv] at this; (try simp) <;> omega)))
  clear H46
  have H56 := Lib.hid (H47.out.below hb6 H47.out.lt)
  clear H47
  have H57 := Lib.hid (QModule.keep H48.out (w' := w6) (fun b hb => hb6.block b (by have := hb; simp only [Iv] at this; (try simp) <;> omega)))
  clear H48
  have H58 := Lib.hid (H49.out.below hb6 H49.out.lt)
  clear H49
  have H59 := Lib.hid (QWordState.keep H50.out (w' := w6) (fun b hb => hb6.block b (by have := hb; simp only [Iv] at this; (try simp) <;> omega)))
  clear H50
  have H60 := Lib.hid (HX42.out.below hb6 HX42.out.lt)
  clear HX42
  have HB61 := Lib.hid (HB51.out.trans (hb6.mono (by have := HB51.out.size; (try simp) <;> omega)))
  clear HB51
  clear hb6
  clear yHX42_0 yHX42_1 yH47_0 yH47_1
  go_wp2_with fail
  refine wp_region_lexC (by kernel_rfl) (by kernel_rfl) (fun x => Below w6.heap.size w6 x) ((Below.refl _ _).drew) (fun lexNE => ?_)
  obtain ⟨cH58_0, cH58_1, cH58_2, cH58_3⟩ := bwS4 (B := w6.heap.size) H58.out H58.out.lt
  obtain ⟨cH53_0, cH53_1, cH53_2, cH53_3⟩ := bwS4 (B := w6.heap.size) H53.out H53.out.lt
  have HL62 := Lib.hid ((Below.refl w6.heap.size w6).drew)
  have H63 := Lib.hid (RModule.keep H52.out (w' := w6.drew) (fun p hb => rfl))
  clear H52
  have H64 := Lib.hid (H53.out.drew)
  clear H53
  have H65 := Lib.hid (QModule.keep H54.out (w' := w6.drew) (fun b hb => rfl))
  clear H54
  have H66 := Lib.hid (QWordState.keep H55.out (w' := w6.drew) (fun b hb => rfl))
  clear H55
  have H67 := Lib.hid (H56.out.drew)
  clear H56
  have H68 := Lib.hid (QModule.keep H57.out (w' := w6.drew) (fun b hb => rfl))
  clear H57
  have H69 := Lib.hid (H58.out.drew)
  clear H58
  have H70 := Lib.hid (QWordState.keep H59.out (w' := w6.drew) (fun b hb => rfl))
  clear H59
  have H71 := Lib.hid (H60.out.drew)
  clear H60
  have HB72 := Lib.hid (HB61.out.drew)
  clear HB61
  (repeat (first | (refine lex_read (by first | exact wanted_n rfl | exact wanted_g rfl rfl rfl rfl) (by exact rfl) (fun K hK => ?_); go_big_quiet_op; refine hK _ ?_; clear hK K) | (refine lex_skip' (by exact wanted_g rfl rfl rfl rfl) (fun K hK => ?_); go_simp; refine hK _ ?_; clear hK K)))
  (refine lex_eff (by first | exact wanted_n rfl | exact wanted_g rfl rfl rfl rfl) (by exact rfl) (fun K hK => ?_); go_big_op)
  refine (d_toModule HZ0.out H63.out (fun b hb => by have : _ < w.heap.size := hb; (try simp) <;> omega)).mono ?_
  rintro e w7 ⟨vw7, rfl, hqw7, hb7⟩
  obtain ⟨Aw7_0, nw7_0, cw7_0, Aw7_1, nw7_1, cw7_1, Aw7_2, nw7_2, cw7_2, Aw7_3, nw7_3, cw7_3, rfl⟩ := hqw7.r.form
  have HQw7 := Lib.hid (QModule.mono hqw7 (S' := Iv (w6.heap.size) (w7.heap.size)) (fun b hb => by have := hb; simp [New] at this; exact ⟨by omega, this.2⟩))
  clear hqw7
  have zw7 := hb7.size
  try simp at zw7
  have H73 := Lib.hid (RModule.keep H63.out (w' := w7) (fun p hb => hb7.cell (by have : _ < w.heap.size := hb; (try simp) <;> omega)))
  clear H63
  have H74 := Lib.hid (H64.out.below hb7 H64.out.lt)
  clear H64
  have H75 := Lib.hid (QModule.keep H65.out (w' := w7) (fun b hb => hb7.block b (by have := hb; simp only [Iv] at this; (try simp) <;> omega)))
  clear H65
  have H76 := Lib.hid (QWordState.keep H66.out (w' := w7) (fun b hb => hb7.block b (by have := hb; simp only [Iv] at this; (try simp) <;> omega)))
  clear H66
  have H77 := Lib.hid (H67.out.below hb7 H67.out.lt)
  clear H67
  have H78 := Lib.hid (QModule.keep H68.out (w' := w7) (fun b hb => hb7.block b (by have := hb; simp only [Iv] at this; (try simp) <;> omega)))
  clear H68
  have H79 := Lib.hid (H69.out.below hb7 H69.out.lt)
  clear H69
  have H80 := Lib.hid (QWordState.keep H70.out (w' := w7) (fun b hb => hb7.block b (by have := hb; simp only [Iv] at this; (try simp) <;> omega)))
  clear H70
  have H81 := Lib.hid (H71.out.below hb7 H71.out.lt)
  clear H71
  have HB82 := Lib.hid (HB72.out.trans (hb7.mono (by have := HB72.out.size; (try simp) <;> omega)))
  clear HB72
  have HL83 := Lib.hid (HL62.out.trans (hb7.mono HL62.out.size))
  clear HL62
  refine hK _ _ (Cls.mk' HL83.out) ?_
  clear hK K hb7
  (repeat (first | (refine lex_read (by first | exact wanted_n rfl | exact wanted_g rfl rfl rfl rfl) (by exact rfl) (fun K hK => ?_); go_big_quiet_op; refine hK _ ?_; clear hK K) | (refine lex_skip' (by exact wanted_g rfl rfl rfl rfl) (fun K hK => ?_); go_simp; refine hK _ ?_; clear hK K)))
  (refine lex_eff (by first | exact wanted_n rfl | exact wanted_g rfl rfl rfl rfl) (by exact rfl) (fun K hK => ?_); go_big_op)
  refine (d_eqModule HZ0.out H78.out.r HQw7.out.r (fun b hb => by have := hb; simp only [Iv] at this; (try simp) <;> omega) (fun b hb => by have := hb; simp only [Iv] at this; (try simp) <;> omega)).mono ?_
  rintro e w8 ⟨rfl, hb8⟩
  have zw8 := hb8.size
  try simp at zw8
  have H84 := Lib.hid (RModule.keep H73.out (w' := w8) (fun p hb => hb8.cell (by have : _ < w.heap.size := hb; (try simp) <;> omega)))
  clear H73
  have H85 := Lib.hid (H74.out.below hb8 H74.out.lt)
  clear H74
  have H86 := Lib.hid (QModule.keep H75.out (w' := w8) (fun b hb => hb8.block b (by have := hb; simp only [Iv] at this; (try simp) <;> omega)))
  clear H75
  have H87 := Lib.hid (QWordState.keep H76.out (w' := w8) (fun b hb => hb8.block b (by have := hb; simp only [Iv] at this; (try simp) <;> omega)))
  clear H76
  have H88 := Lib.hid (H77.out.below hb8 H77.out.lt)
  clear H77
  have H89 := Lib.hid (QModule.keep H78.out (w' := w8) (fun b hb => hb8.block b (by have := hb; simp only [Iv] at this; (try simp) <;> omega)))
  clear H78
  have H90 := Lib.hid (H79.out.below hb8 H79.out.lt)
  clear H79
  have H91 := Lib.hid (QWordState.keep H80.out (w' := w8) (fun b hb => hb8.block b (by have := hb; simp only [Iv] at this; (try simp) <;> omega)))
  clear H80
  have H92 := Lib.hid (H81.out.below hb8 H81.out.lt)
  clear H81
  have H93 := Lib.hid (QModule.keep HQw7.out (w' := w8) (fun b hb => hb8.block b (by have := hb; simp only [Iv] at this; (try simp) <;> omega)))
  clear HQw7
  have HB94 := Lib.hid (HB82.out.trans (hb8.mono (by have := HB82.out.size; (try simp) <;> omega)))
  clear HB82
  have HL95 := Lib.hid (HL83.out.trans (hb8.mono HL83.out.size))
  clear HL83
  refine hK _ _ (Cls.mk' HL95.out) ?_
  clear hK K hb8
  (repeat (first | (refine lex_read (by first | exact wanted_n rfl | exact wanted_g rfl rfl rfl rfl) (by exact rfl) (fun K hK => ?_); go_big_quiet_op; refine hK _ ?_; clear hK K) | (refine lex_skip' (by exact wanted_g rfl rfl rfl rfl) (fun K hK => ?_); go_simp; refine hK _ ?_; clear hK K)))
  (refine lex_nil ?_)
  clear lexNE cH58_0 cH58_1 cH58_2 cH58_3 cH53_0 cH53_1 cH53_2 cH53_3
  obtain ⟨yH90_0, yH90_1, yH90_2, yH90_3⟩ := blkS4 H90.out
  go_wp2_with fail
  have hmb96 : nModule m ≤ 8388608 := by have h1 := nModule_le m; have h2 : sModule m ≤ 1048576 := HZ0.out; omega
  refine (d_markModule (1) (by omega) H89.out (fun b hb => by have := hb; simp only [Iv] at this; (try simp) <;> omega)).mono ?_
  rintro e w9 ⟨rfl, hqw9, hb9⟩
  obtain ⟨mk97, hmk97⟩ : ∃ zz, zz = 1 + nModule m := ⟨_, rfl⟩
  rw [← hmk97]
  have hmk97b : mk97 ≤ 1073741824 := by omega
  have HMmk97 := Lib.hid hmk97
  clear hmk97 hmb96
  clear H89
  have zw9 := hb9.size
  try simp at zw9
  have H98 := Lib.hid (RModule.keep H84.out (w' := w9) (fun p hb => hb9.cell (by have : _ < w.heap.size := hb; (try simp) <;> omega) (fun hc => by have := hb; simp only [Iv] at hc; omega)))
  clear H84
  have H99 := Lib.hid (hb9.blk H85.out (fun hc => by simp only [Iv] at hc; (try simp at hc) <;> omega))
  clear H85
  have H100 := Lib.hid (QModule.keep H86.out (w' := w9) (fun b hb => hb9.block b (by have := hb; simp only [Iv] at this; (try simp) <;> omega) (fun hc => by have := hb; simp only [Iv] at this; simp only [Iv] at hc; omega)))
  clear H86
  have H101 := Lib.hid (QWordState.keep H87.out (w' := w9) (fun b hb => hb9.block b (by have := hb; simp only [Iv] at this; (try simp) <;> omega) (fun hc => by have := hb; simp only [Iv] at this; simp only [Iv] at hc; omega)))
  clear H87
  have H102 := Lib.hid (hb9.blk H88.out (fun hc => by simp only [Iv] at hc; (try simp at hc) <;> omega))
  clear H88
  have H103 := Lib.hid (hb9.blk H90.out (fun hc => by simp only [Iv] at hc; (try simp at hc) <;> omega))
  clear H90
  have H104 := Lib.hid (QWordState.keep H91.out (w' := w9) (fun b hb => hb9.block b (by have := hb; simp only [Iv] at this; (try simp) <;> omega) (fun hc => by have := hb; simp only [Iv] at this; simp only [Iv] at hc; omega)))
  clear H91
  have H105 := Lib.hid (hb9.blk H92.out (fun hc => by simp only [Iv] at hc; (try simp at hc) <;> omega))
  clear H92
  have H106 := Lib.hid (QModule.keep H93.out (w' := w9) (fun b hb => hb9.block b (by have := hb; simp only [Iv] at this; (try simp) <;> omega) (fun hc => by have := hb; simp only [Iv] at this; simp only [Iv] at hc; omega)))
  clear H93
  have HB107 := Lib.hid (HB94.out.trans (hb9.below (by have := HB94.out.size; (try simp) <;> omega) (fun b hb => by simp only [Iv] at hb; omega)))
  clear HB94
  clear hb9
  have HQw9 := Lib.hid hqw9
  clear hqw9
  clear yH90_0 yH90_1 yH90_2 yH90_3
  obtain ⟨yH105_0, yH105_1⟩ := blkS2 H105.out
  obtain ⟨yH102_0, yH102_1⟩ := blkS2 H102.out
  go_wp2_with fail
  refine (d_eqWordState (startS_sz m) H104.out.r H101.out.r (fun b hb => by have := hb; simp only [Iv] at this; (try simp) <;> omega) (fun b hb => by have := hb; simp only [Iv] at this; (try simp) <;> omega)).mono ?_
  rintro e w10 ⟨rfl, hb10⟩
  have zw10 := hb10.size
  try simp at zw10
  have H108 := Lib.hid (RModule.keep H98.out (w' := w10) (fun p hb => hb10.cell (by have : _ < w.heap.size := hb; (try simp) <;> omega)))
  clear H98
  have H109 := Lib.hid (H99.out.below hb10 H99.out.lt)
  clear H99
  have H110 := Lib.hid (QModule.keep H100.out (w' := w10) (fun b hb => hb10.block b (by have := hb; simp only [Iv] at this; (try simp) <;> omega)))
  clear H100
  have H111 := Lib.hid (QWordState.keep H101.out (w' := w10) (fun b hb => hb10.block b (by have := hb; simp only [Iv] at this; (try simp) <;> omega)))
  clear H101
  have H112 := Lib.hid (H102.out.below hb10 H102.out.lt)
  clear H102
  have H113 := Lib.hid (H103.out.below hb10 H103.out.lt)
  clear H103
  have H114 := Lib.hid (QWordState.keep H104.out (w' := w10) (fun b hb => hb10.block b (by have := hb; simp only [Iv] at this; (try simp) <;> omega)))
  clear H104
  have H115 := Lib.hid (H105.out.below hb10 H105.out.lt)
  clear H105
  have H116 := Lib.hid (QModule.keep H106.out (w' := w10) (fun b hb => hb10.block b (by have := hb; simp only [Iv] at this; (try simp) <;> omega)))
  clear H106
  have H117 := Lib.hid (QModule.keep HQw9.out (w' := w10) (fun b hb => hb10.block b (by have := hb; simp only [Iv] at this; (try simp) <;> omega)))
  clear HQw9
  have HB118 := Lib.hid (HB107.out.trans (hb10.mono (by have := HB107.out.size; (try simp) <;> omega)))
  clear HB107
  clear hb10
  clear yH105_0 yH105_1 yH102_0 yH102_1
  obtain ⟨yH115_0, yH115_1⟩ := blkS2 H115.out
  go_wp2_with fail
  have hmb119 : nWordState (startS m) ≤ 8388608 := by have h1 := nWordState_le (startS m); have h2 : sWordState (startS m) ≤ 1048576 := startS_sz m; omega
  refine (d_markWordState (1) (by omega) H114.out (fun b hb => by have := hb; simp only [Iv] at this; (try simp) <;> omega)).mono ?_
  rintro e w11 ⟨rfl, hqw11, hb11⟩
  obtain ⟨mk120, hmk120⟩ : ∃ zz, zz = 1 + nWordState (startS m) := ⟨_, rfl⟩
  rw [← hmk120]
  have hmk120b : mk120 ≤ 1073741824 := by omega
  have HMmk120 := Lib.hid hmk120
  clear hmk120 hmb119
  clear H114
  have zw11 := hb11.size
  try simp at zw11
  have H121 := Lib.hid (RModule.keep H108.out (w' := w11) (fun p hb => hb11.cell (by have : _ < w.heap.size := hb; (try simp) <;> omega) (fun hc => by have := hb; simp only [Iv] at hc; omega)))
  clear H108
  have H122 := Lib.hid (hb11.blk H109.out (fun hc => by simp only [Iv] at hc; (try simp at hc) <;> omega))
  clear H109
  have H123 := Lib.hid (QModule.keep H110.out (w' := w11) (fun b hb => hb11.block b (by have := hb; simp only [Iv] at this; (try simp) <;> omega) (fun hc => by have := hb; simp only [Iv] at this; simp only [Iv] at hc; omega)))
  clear H110
  have H124 := Lib.hid (QWordState.keep H111.out (w' := w11) (fun b hb => hb11.block b (by have := hb; simp only [Iv] at this; (try simp) <;> omega) (fun hc => by have := hb; simp only [Iv] at this; simp only [Iv] at hc; omega)))
  clear H111
  have H125 := Lib.hid (hb11.blk H112.out (fun hc => by simp only [Iv] at hc; (try simp at hc) <;> omega))
  clear H112
  have H126 := Lib.hid (hb11.blk H113.out (fun hc => by simp only [Iv] at hc; (try simp at hc) <;> omega))
  clear H113
  have H127 := Lib.hid (hb11.blk H115.out (fun hc => by simp only [Iv] at hc; (try simp at hc) <;> omega))
  clear H115
  have H128 := Lib.hid (QModule.keep H116.out (w' := w11) (fun b hb => hb11.block b (by have := hb; simp only [Iv] at this; (try simp) <;> omega) (fun hc => by have := hb; simp only [Iv] at this; simp only [Iv] at hc; omega)))
  clear H116
  have H129 := Lib.hid (QModule.keep H117.out (w' := w11) (fun b hb => hb11.block b (by have := hb; simp only [Iv] at this; (try simp) <;> omega) (fun hc => by have := hb; simp only [Iv] at this; simp only [Iv] at hc; omega)))
  clear H117
  have HB130 := Lib.hid (HB118.out.trans (hb11.below (by have := HB118.out.size; (try simp) <;> omega) (fun b hb => by simp only [Iv] at hb; omega)))
  clear HB118
  clear hb11
  have HQw11 := Lib.hid hqw11
  clear hqw11
  clear yH115_0 yH115_1
  obtain ⟨yH127_0, yH127_1⟩ := blkS2 H127.out
  go_wp2_with fail
  have hmb131 : 1 + nWordState (startS m) ≤ 1099511627776 := by rw [← HMmk120.out]; omega
  refine (d_heldWordState (1) (by omega) HQw11.out.r (fun b hb => by have := hb; simp only [Iv] at this; (try simp) <;> omega)).mono ?_
  rintro e w12 ⟨rfl, hb12⟩
  rw [← HMmk120.out]
  clear hmb131
  have zw12 := hb12.size
  try simp at zw12
  have H132 := Lib.hid (RModule.keep H121.out (w' := w12) (fun p hb => hb12.cell (by have : _ < w.heap.size := hb; (try simp) <;> omega)))
  clear H121
  have H133 := Lib.hid (H122.out.below hb12 H122.out.lt)
  clear H122
  have H134 := Lib.hid (QModule.keep H123.out (w' := w12) (fun b hb => hb12.block b (by have := hb; simp only [Iv] at this; (try simp) <;> omega)))
  clear H123
  have H135 := Lib.hid (QWordState.keep H124.out (w' := w12) (fun b hb => hb12.block b (by have := hb; simp only [Iv] at this; (try simp) <;> omega)))
  clear H124
  have H136 := Lib.hid (H125.out.below hb12 H125.out.lt)
  clear H125
  have H137 := Lib.hid (H126.out.below hb12 H126.out.lt)
  clear H126
  have H138 := Lib.hid (H127.out.below hb12 H127.out.lt)
  clear H127
  have H139 := Lib.hid (QModule.keep H128.out (w' := w12) (fun b hb => hb12.block b (by have := hb; simp only [Iv] at this; (try simp) <;> omega)))
  clear H128
  have H140 := Lib.hid (QModule.keep H129.out (w' := w12) (fun b hb => hb12.block b (by have := hb; simp only [Iv] at this; (try simp) <;> omega)))
  clear H129
  have H141 := Lib.hid (QWordState.keep HQw11.out (w' := w12) (fun b hb => hb12.block b (by have := hb; simp only [Iv] at this; (try simp) <;> omega)))
  clear HQw11
  have HB142 := Lib.hid (HB130.out.trans (hb12.mono (by have := HB130.out.size; (try simp) <;> omega)))
  clear HB130
  clear hb12
  clear yH127_0 yH127_1
  obtain ⟨yH133_0, yH133_1, yH133_2, yH133_3⟩ := blkS4 H133.out
  go_wp2_with fail
  refine (d_toModule HZ0.out H132.out (fun b hb => by have : _ < w.heap.size := hb; (try simp) <;> omega)).mono ?_
  rintro e w13 ⟨vw13, rfl, hqw13, hb13⟩
  obtain ⟨Aw13_0, nw13_0, cw13_0, Aw13_1, nw13_1, cw13_1, Aw13_2, nw13_2, cw13_2, Aw13_3, nw13_3, cw13_3, rfl⟩ := hqw13.r.form
  have HQw13 := Lib.hid (QModule.mono hqw13 (S' := Iv (w12.heap.size) (w13.heap.size)) (fun b hb => by have := hb; simp [New] at this; exact ⟨by omega, this.2⟩))
  clear hqw13
  have zw13 := hb13.size
  try simp at zw13
  have H143 := Lib.hid (RModule.keep H132.out (w' := w13) (fun p hb => hb13.cell (by have : _ < w.heap.size := hb; (try simp) <;> omega)))
  clear H132
  have H144 := Lib.hid (H133.out.below hb13 H133.out.lt)
  clear H133
  have H145 := Lib.hid (QModule.keep H134.out (w' := w13) (fun b hb => hb13.block b (by have := hb; simp only [Iv] at this; (try simp) <;> omega)))
  clear H134
  have H146 := Lib.hid (QWordState.keep H135.out (w' := w13) (fun b hb => hb13.block b (by have := hb; simp only [Iv] at this; (try simp) <;> omega)))
  clear H135
  have H147 := Lib.hid (H136.out.below hb13 H136.out.lt)
  clear H136
  have H148 := Lib.hid (H137.out.below hb13 H137.out.lt)
  clear H137
  have H149 := Lib.hid (H138.out.below hb13 H138.out.lt)
  clear H138
  have H150 := Lib.hid (QModule.keep H139.out (w' := w13) (fun b hb => hb13.block b (by have := hb; simp only [Iv] at this; (try simp) <;> omega)))
  clear H139
  have H151 := Lib.hid (QModule.keep H140.out (w' := w13) (fun b hb => hb13.block b (by have := hb; simp only [Iv] at this; (try simp) <;> omega)))
  clear H140
  have H152 := Lib.hid (QWordState.keep H141.out (w' := w13) (fun b hb => hb13.block b (by have := hb; simp only [Iv] at this; (try simp) <;> omega)))
  clear H141
  have HB153 := Lib.hid (HB142.out.trans (hb13.mono (by have := HB142.out.size; (try simp) <;> omega)))
  clear HB142
  clear hb13
  clear yH133_0 yH133_1 yH133_2 yH133_3
  go_wp2_with fail
  refine (i_FlatStart HZ0.out HQw13.out.r (fun b hb => by have := hb; simp only [Iv] at this; (try simp) <;> omega)).mono ?_
  rintro e w14 ⟨vw14_0, rfl, hqw14_0, hb14⟩
  obtain ⟨Aw14_0_0, nw14_0_0, cw14_0_0, Aw14_0_1, nw14_0_1, cw14_0_1, rfl⟩ := hqw14_0.r.form
  have HQw14_0 := Lib.hid (QWordState.mono hqw14_0 (S' := Iv (w13.heap.size) (w14.heap.size)) (fun b hb => by have := hb; simp [New] at this; exact ⟨by omega, this.2⟩))
  clear hqw14_0
  have zw14 := hb14.size
  try simp at zw14
  have H154 := Lib.hid (RModule.keep H143.out (w' := w14) (fun p hb => hb14.cell (by have : _ < w.heap.size := hb; (try simp) <;> omega)))
  clear H143
  have H155 := Lib.hid (H144.out.below hb14 H144.out.lt)
  clear H144
  have H156 := Lib.hid (QModule.keep H145.out (w' := w14) (fun b hb => hb14.block b (by have := hb; simp only [Iv] at this; (try simp) <;> omega)))
  clear H145
  have H157 := Lib.hid (QWordState.keep H146.out (w' := w14) (fun b hb => hb14.block b (by have := hb; simp only [Iv] at this; (try simp) <;> omega)))
  clear H146
  have H158 := Lib.hid (H147.out.below hb14 H147.out.lt)
  clear H147
  have H159 := Lib.hid (H148.out.below hb14 H148.out.lt)
  clear H148
  have H160 := Lib.hid (H149.out.below hb14 H149.out.lt)
  clear H149
  have H161 := Lib.hid (QModule.keep H150.out (w' := w14) (fun b hb => hb14.block b (by have := hb; simp only [Iv] at this; (try simp) <;> omega)))
  clear H150
  have H162 := Lib.hid (QModule.keep H151.out (w' := w14) (fun b hb => hb14.block b (by have := hb; simp only [Iv] at this; (try simp) <;> omega)))
  clear H151
  have H163 := Lib.hid (QWordState.keep H152.out (w' := w14) (fun b hb => hb14.block b (by have := hb; simp only [Iv] at this; (try simp) <;> omega)))
  clear H152
  have H164 := Lib.hid (QModule.keep HQw13.out (w' := w14) (fun b hb => hb14.block b (by have := hb; simp only [Iv] at this; (try simp) <;> omega)))
  clear HQw13
  have HB165 := Lib.hid (HB153.out.trans (hb14.mono (by have := HB153.out.size; (try simp) <;> omega)))
  clear HB153
  clear hb14
  have H167 := Lib.hid (RModule.keep H154.out (w' := (w14.alloc (.cells #[.slice Aw14_0_0 nw14_0_0 cw14_0_0, .slice Aw14_0_1 nw14_0_1 cw14_0_1] 69))) (fun p hb => World.cell?_alloc_lt _ _ p (by have : _ < w.heap.size := hb; (try simp) <;> omega)))
  clear H154
  have H168 := Lib.hid (H155.out.alloc (.cells #[.slice Aw14_0_0 nw14_0_0 cw14_0_0, .slice Aw14_0_1 nw14_0_1 cw14_0_1] 69))
  clear H155
  have H169 := Lib.hid (QModule.keep H156.out (w' := (w14.alloc (.cells #[.slice Aw14_0_0 nw14_0_0 cw14_0_0, .slice Aw14_0_1 nw14_0_1 cw14_0_1] 69))) (fun b hb => Below.heap_alloc _ _ b (by have := hb; simp only [Iv] at this; (try simp) <;> omega)))
  clear H156
  have H170 := Lib.hid (QWordState.keep H157.out (w' := (w14.alloc (.cells #[.slice Aw14_0_0 nw14_0_0 cw14_0_0, .slice Aw14_0_1 nw14_0_1 cw14_0_1] 69))) (fun b hb => Below.heap_alloc _ _ b (by have := hb; simp only [Iv] at this; (try simp) <;> omega)))
  clear H157
  have H171 := Lib.hid (H158.out.alloc (.cells #[.slice Aw14_0_0 nw14_0_0 cw14_0_0, .slice Aw14_0_1 nw14_0_1 cw14_0_1] 69))
  clear H158
  have H172 := Lib.hid (H159.out.alloc (.cells #[.slice Aw14_0_0 nw14_0_0 cw14_0_0, .slice Aw14_0_1 nw14_0_1 cw14_0_1] 69))
  clear H159
  have H173 := Lib.hid (H160.out.alloc (.cells #[.slice Aw14_0_0 nw14_0_0 cw14_0_0, .slice Aw14_0_1 nw14_0_1 cw14_0_1] 69))
  clear H160
  have H174 := Lib.hid (QModule.keep H161.out (w' := (w14.alloc (.cells #[.slice Aw14_0_0 nw14_0_0 cw14_0_0, .slice Aw14_0_1 nw14_0_1 cw14_0_1] 69))) (fun b hb => Below.heap_alloc _ _ b (by have := hb; simp only [Iv] at this; (try simp) <;> omega)))
  clear H161
  have H175 := Lib.hid (QModule.keep H162.out (w' := (w14.alloc (.cells #[.slice Aw14_0_0 nw14_0_0 cw14_0_0, .slice Aw14_0_1 nw14_0_1 cw14_0_1] 69))) (fun b hb => Below.heap_alloc _ _ b (by have := hb; simp only [Iv] at this; (try simp) <;> omega)))
  clear H162
  have H176 := Lib.hid (QWordState.keep H163.out (w' := (w14.alloc (.cells #[.slice Aw14_0_0 nw14_0_0 cw14_0_0, .slice Aw14_0_1 nw14_0_1 cw14_0_1] 69))) (fun b hb => Below.heap_alloc _ _ b (by have := hb; simp only [Iv] at this; (try simp) <;> omega)))
  clear H163
  have H177 := Lib.hid (QModule.keep H164.out (w' := (w14.alloc (.cells #[.slice Aw14_0_0 nw14_0_0 cw14_0_0, .slice Aw14_0_1 nw14_0_1 cw14_0_1] 69))) (fun b hb => Below.heap_alloc _ _ b (by have := hb; simp only [Iv] at this; (try simp) <;> omega)))
  clear H164
  have H178 := Lib.hid (QWordState.keep HQw14_0.out (w' := (w14.alloc (.cells #[.slice Aw14_0_0 nw14_0_0 cw14_0_0, .slice Aw14_0_1 nw14_0_1 cw14_0_1] 69))) (fun b hb => Below.heap_alloc _ _ b (by have := hb; simp only [Iv] at this; (try simp) <;> omega)))
  clear HQw14_0
  have HB179 := Lib.hid (HB165.out.alloc (by have := HB165.out.size; (try simp) <;> omega) (.cells #[.slice Aw14_0_0 nw14_0_0 cw14_0_0, .slice Aw14_0_1 nw14_0_1 cw14_0_1] 69))
  clear HB165
  have HX166 := Lib.hid (show Blk (w14.alloc (.cells #[.slice Aw14_0_0 nw14_0_0 cw14_0_0, .slice Aw14_0_1 nw14_0_1 cw14_0_1] 69)) (w14.heap.size) 69 #[.slice Aw14_0_0 nw14_0_0 cw14_0_0, .slice Aw14_0_1 nw14_0_1 cw14_0_1] from by have h := Blk.new (w14) 69 #[.slice Aw14_0_0 nw14_0_0 cw14_0_0, .slice Aw14_0_1 nw14_0_1 cw14_0_1]; simpa using h)
  obtain ⟨yHX166_0, yHX166_1⟩ := blkS2 HX166.out
  obtain ⟨yH171_0, yH171_1⟩ := blkS2 H171.out
  go_wp2_with fail
  refine (d_eqWordState (startS_sz m) H178.out.r H170.out.r (fun b hb => by have := hb; simp only [Iv] at this; (try simp) <;> omega) (fun b hb => by have := hb; simp only [Iv] at this; (try simp) <;> omega)).mono ?_
  rintro e w15 ⟨rfl, hb15⟩
  have zw15 := hb15.size
  try simp at zw15
  have H180 := Lib.hid (RModule.keep H167.out (w' := w15) (fun p hb => hb15.cell (by have : _ < w.heap.size := hb; (try simp) <;> omega)))
  clear H167
  have H181 := Lib.hid (H168.out.below hb15 H168.out.lt)
  clear H168
  have H182 := Lib.hid (QModule.keep H169.out (w' := w15) (fun b hb => hb15.block b (by have := hb; simp only [Iv] at this; (try simp) <;> omega)))
  clear H169
  have H183 := Lib.hid (QWordState.keep H170.out (w' := w15) (fun b hb => hb15.block b (by have := hb; simp only [Iv] at this; (try simp) <;> omega)))
  clear H170
  have H184 := Lib.hid (H171.out.below hb15 H171.out.lt)
  clear H171
  have H185 := Lib.hid (H172.out.below hb15 H172.out.lt)
  clear H172
  have H186 := Lib.hid (H173.out.below hb15 H173.out.lt)
  clear H173
  have H187 := Lib.hid (QModule.keep H174.out (w' := w15) (fun b hb => hb15.block b (by have := hb; simp only [Iv] at this; (try simp) <;> omega)))
  clear H174
  have H188 := Lib.hid (QModule.keep H175.out (w' := w15) (fun b hb => hb15.block b (by have := hb; simp only [Iv] at this; (try simp) <;> omega)))
  clear H175
  have H189 := Lib.hid (QWordState.keep H176.out (w' := w15) (fun b hb => hb15.block b (by have := hb; simp only [Iv] at this; (try simp) <;> omega)))
  clear H176
  have H190 := Lib.hid (QModule.keep H177.out (w' := w15) (fun b hb => hb15.block b (by have := hb; simp only [Iv] at this; (try simp) <;> omega)))
  clear H177
  have H191 := Lib.hid (QWordState.keep H178.out (w' := w15) (fun b hb => hb15.block b (by have := hb; simp only [Iv] at this; (try simp) <;> omega)))
  clear H178
  have H192 := Lib.hid (HX166.out.below hb15 HX166.out.lt)
  clear HX166
  have HB193 := Lib.hid (HB179.out.trans (hb15.mono (by have := HB179.out.size; (try simp) <;> omega)))
  clear HB179
  clear hb15
  clear yHX166_0 yHX166_1 yH171_0 yH171_1
  obtain ⟨yH186_0, yH186_1⟩ := blkS2 H186.out
  go_wp2_with fail
  have hmb194 : 1 + nWordState (startS m) ≤ 1099511627776 := by rw [← HMmk120.out]; omega
  refine (d_heldWordState (1) (by omega) H189.out.r (fun b hb => by have := hb; simp only [Iv] at this; (try simp) <;> omega)).mono ?_
  rintro e w16 ⟨rfl, hb16⟩
  rw [← HMmk120.out]
  clear hmb194
  have zw16 := hb16.size
  try simp at zw16
  have H195 := Lib.hid (RModule.keep H180.out (w' := w16) (fun p hb => hb16.cell (by have : _ < w.heap.size := hb; (try simp) <;> omega)))
  clear H180
  have H196 := Lib.hid (H181.out.below hb16 H181.out.lt)
  clear H181
  have H197 := Lib.hid (QModule.keep H182.out (w' := w16) (fun b hb => hb16.block b (by have := hb; simp only [Iv] at this; (try simp) <;> omega)))
  clear H182
  have H198 := Lib.hid (QWordState.keep H183.out (w' := w16) (fun b hb => hb16.block b (by have := hb; simp only [Iv] at this; (try simp) <;> omega)))
  clear H183
  have H199 := Lib.hid (H184.out.below hb16 H184.out.lt)
  clear H184
  have H200 := Lib.hid (H185.out.below hb16 H185.out.lt)
  clear H185
  have H201 := Lib.hid (H186.out.below hb16 H186.out.lt)
  clear H186
  have H202 := Lib.hid (QModule.keep H187.out (w' := w16) (fun b hb => hb16.block b (by have := hb; simp only [Iv] at this; (try simp) <;> omega)))
  clear H187
  have H203 := Lib.hid (QModule.keep H188.out (w' := w16) (fun b hb => hb16.block b (by have := hb; simp only [Iv] at this; (try simp) <;> omega)))
  clear H188
  have H204 := Lib.hid (QWordState.keep H189.out (w' := w16) (fun b hb => hb16.block b (by have := hb; simp only [Iv] at this; (try simp) <;> omega)))
  clear H189
  have H205 := Lib.hid (QModule.keep H190.out (w' := w16) (fun b hb => hb16.block b (by have := hb; simp only [Iv] at this; (try simp) <;> omega)))
  clear H190
  have H206 := Lib.hid (QWordState.keep H191.out (w' := w16) (fun b hb => hb16.block b (by have := hb; simp only [Iv] at this; (try simp) <;> omega)))
  clear H191
  have H207 := Lib.hid (H192.out.below hb16 H192.out.lt)
  clear H192
  have HB208 := Lib.hid (HB193.out.trans (hb16.mono (by have := HB193.out.size; (try simp) <;> omega)))
  clear HB193
  clear hb16
  clear yH186_0 yH186_1
  go_wp2_with fail
  go_ret
  exact ⟨rfl, HB208.out⟩
set_option maxRecDepth 100000 in
theorem lifted_FnExactFlatStart (os : Os) (started : os.Started) (H : Type) (enc : TypeId × Value → H) :
    ReturnsInHanded {} Try.checked os 11 .any (Rows.fnExactFlatStartSpec.pre6 enc Try.prog Try.f11 Rows.fnExactFlatStartRow.domain false) (Rows.fnExactFlatStartSpec.post enc Try.prog Try.f11 false true false false) := by
  refine lift (F := 11) (fn := Try.f11) (s := Rows.fnExactFlatStartSpec) (conds := Rows.fnExactFlatStartRow.domain) (by kernel_rfl) Try.func11 (by kernel_rfl) rfl (by kernel_rfl) ?_ ?_ os started H enc
    (ChangeSpec.witness6 (enc := enc) (C := Try.checked) false ⟨#[], #[.agg #[.slice none 0 0, .slice none 0 0, .slice none 0 0, .slice none 0 0]], []⟩ 8 (by kernel_rfl) (by kernel_rfl) (by kernel_rfl) (by kernel_rfl))
  · intro H ds hl
    rw [Try.params11] at hl
    match ds, hl with
    | [d0], _ => exact ⟨rfl, rfl, rfl⟩
  · intro W base args H enc ds p hval hA hlt
    rw [Try.params11] at hA hval
    obtain ⟨v0, vs0, e0, es0, p0, q0, hargs, rfl, rfl, h0, r0⟩ := trodAll_cons hA
    obtain ⟨rfl, rfl, rfl⟩ := trodAll_nil r0
    obtain rfl : args = #[v0] := by cases args; simp_all
    obtain ⟨x0, w0⟩ := op_Module (hval 0 42 v0 rfl rfl) h0 (fun x hx => hlt x (by simp [hx]))
    exact walk_FnExactFlatStart v0 x0 W w0
theorem facts_FnExactFlatStart : joinedFacts Try.pinned.checked.prog 11 Try.f11 Rows.fnExactFlatStartSpec Rows.fnExactFlatStartRow = true :=
  facts_of (P := Try.prog) mayE liftE makeE rfl rfl (by kernel_rfl) (by kernel_rfl) (by kernel_rfl) (by kernel_rfl) (by kernel_rfl) (by kernel_rfl) (by kernel_rfl) (by kernel_rfl) (by kernel_rfl) (by kernel_rfl) (by kernel_rfl) (by kernel_rfl) (by kernel_rfl) rfl rfl (by kernel_rfl) (by kernel_rfl) (by kernel_rfl) (by kernel_rfl) (by kernel_rfl) (by kernel_rfl) (by kernel_rfl) (by kernel_rfl) (by kernel_rfl) (by kernel_rfl) (by kernel_rfl) rfl rfl (by kernel_rfl) (by kernel_rfl) (by kernel_rfl)
theorem over_FnExactFlatStart : Rows.fnExactFlatStartRow.holds Try.pinned (OpenSpec.ofChange Rows.fnExactFlatStartSpec) :=
  OpenClaim.holds_of_wide 11 Try.f11 rfl rfl rfl rfl rfl rfl rfl ⟨rfl, rfl, rfl, rfl, rfl⟩ rfl rfl rfl rfl rfl (by kernel_rfl) Try.func11 facts_FnExactFlatStart
    (of_decide_eq_true (by kernel_rfl)) (by unfold Func.isWrapper; first | (rw [if_pos (by decide +kernel)]; kernel_rfl) | (rw [if_neg (by decide +kernel)]; exact ⟨rfl, rfl⟩))
    (fun os started H enc _ => lifted_FnExactFlatStart os started H enc)
theorem FnExactFlatStart_holds : Rows.FnExactFlatStartSaid := over_FnExactFlatStart
end Go.Proofs.Ytjiijjihkgipkaa
