/- Law of the order of evaluation: for every module the program's EvalOrder returns the reference's order, in memory of its own. Conditions: none. -/
import Derived.Test.YtjiijjihkgipkaaFrame8
import Derived.Test.YtjiijjihkgipkaaEvoC
import Derived.Test.YtjiijjihkgipkaaGa
import Derived.Outline
namespace Go.Proofs.Ytjiijjihkgipkaa
open Go.ChangeShapes Go.WideShapes Go.ChangeAt Go.RowKit

set_option maxRecDepth 100000 in
set_option maxHeartbeats 8000000 in
theorem walk_FnExactEvalOrder (v0 : Value) (m : TModule) (w : World) (h0 : RModule (w) (fun b => b < w.heap.size) (v0) m ∧ WfModule m) :
    Calls Try.prog 6 #[v0] w fun e w' => e = .returned (.bool true) ∧ Below w.heap.size w w' := by
  obtain ⟨h0, wf0⟩ := h0
  have WF0 := Lib.hid wf0
  clear wf0
  obtain ⟨Aa0_0, na0_0, ca0_0, Aa0_1, na0_1, ca0_1, Aa0_2, na0_2, ca0_2, Aa0_3, na0_3, ca0_3, rfl⟩ := h0.form
  have HB0 := Lib.hid (Below.refl w.heap.size w)
  have HR0 := Lib.hid h0
  clear h0
  go_enter Try.func6, Try.ntmps6
  have H2 := Lib.hid (RModule.keep HR0.out (w' := (w.alloc (.cells #[.slice Aa0_0 na0_0 ca0_0, .slice Aa0_1 na0_1 ca0_1, .slice Aa0_2 na0_2 ca0_2, .slice Aa0_3 na0_3 ca0_3] 42))) (fun p hb => World.cell?_alloc_lt _ _ p (by have : _ < w.heap.size := hb; (try simp) <;> omega)))
  clear HR0
  have HB3 := Lib.hid (HB0.out.alloc (by have := HB0.out.size; (try simp) <;> omega) (.cells #[.slice Aa0_0 na0_0 ca0_0, .slice Aa0_1 na0_1 ca0_1, .slice Aa0_2 na0_2 ca0_2, .slice Aa0_3 na0_3 ca0_3] 42))
  clear HB0
  have HX1 := Lib.hid (show Blk (w.alloc (.cells #[.slice Aa0_0 na0_0 ca0_0, .slice Aa0_1 na0_1 ca0_1, .slice Aa0_2 na0_2 ca0_2, .slice Aa0_3 na0_3 ca0_3] 42)) (w.heap.size) 42 #[.slice Aa0_0 na0_0 ca0_0, .slice Aa0_1 na0_1 ca0_1, .slice Aa0_2 na0_2 ca0_2, .slice Aa0_3 na0_3 ca0_3] from by have h := Blk.new (w) 42 #[.slice Aa0_0 na0_0 ca0_0, .slice Aa0_1 na0_1 ca0_1, .slice Aa0_2 na0_2 ca0_2, .slice Aa0_3 na0_3 ca0_3]; simpa using h)
  obtain ⟨yHX1_0, yHX1_1, yHX1_2, yHX1_3⟩ := blkS4 HX1.out
  go_wp2_with fail
  refine (d_szModule (1048576) (by omega) H2.out (fun b hb => by have : _ < w.heap.size := hb; (try simp) <;> omega)).mono ?_
  rintro e w1 ⟨rfl, hb1⟩
  obtain ⟨cz0, hcz0⟩ : ∃ zz, zz = sModule m := ⟨_, rfl⟩
  rw [← hcz0]
  have zw1 := hb1.size
  try simp at zw1
  have H4 := Lib.hid (RModule.keep H2.out (w' := w1) (fun p hb => hb1.cell (by have : _ < w.heap.size := hb; (try simp) <;> omega)))
  clear H2
  have H5 := Lib.hid (HX1.out.below hb1 HX1.out.lt)
  clear HX1
  have HB6 := Lib.hid (HB3.out.trans (hb1.mono (by have := HB3.out.size; (try simp) <;> omega)))
  clear HB3
  clear hb1
  by_cases bcz0 : cz0 ≤ 1048576
  rotate_left
  · rw [leftD_no bcz0]
    clear hcz0
    go_wp2_with fail
    go_ret
    exact ⟨rfl, HB6.out⟩
  obtain ⟨lf0, hlf0⟩ : ∃ zz, zz = 1048576 - cz0 := ⟨_, rfl⟩
  rw [leftD_yes bcz0, ← hlf0]
  have HZ0 := Lib.hid (show sModule m ≤ 1048576 by rw [← hcz0]; omega)
  have hllf0 : lf0 ≤ 1048576 := by omega
  clear hcz0 bcz0 hlf0
  clear yHX1_0 yHX1_1 yHX1_2 yHX1_3
  obtain ⟨yH5_0, yH5_1, yH5_2, yH5_3⟩ := blkS4 H5.out
  go_wp2_with fail
  refine (d_toModule HZ0.out H4.out (fun b hb => by have : _ < w.heap.size := hb; (try simp) <;> omega)).mono ?_
  rintro e w2 ⟨vw2, rfl, hqw2, hb2⟩
  obtain ⟨Aw2_0, nw2_0, cw2_0, Aw2_1, nw2_1, cw2_1, Aw2_2, nw2_2, cw2_2, Aw2_3, nw2_3, cw2_3, rfl⟩ := hqw2.r.form
  have HQw2 := Lib.hid (QModule.mono hqw2 (S' := Iv (w1.heap.size) (w2.heap.size)) (fun b hb => by have := hb; simp [New] at this; exact ⟨by omega, this.2⟩))
  clear hqw2
  have zw2 := hb2.size
  try simp at zw2
  have H7 := Lib.hid (RModule.keep H4.out (w' := w2) (fun p hb => hb2.cell (by have : _ < w.heap.size := hb; (try simp) <;> omega)))
  clear H4
  have H8 := Lib.hid (H5.out.below hb2 H5.out.lt)
  clear H5
  have HB9 := Lib.hid (HB6.out.trans (hb2.mono (by have := HB6.out.size; (try simp) <;> omega)))
  clear HB6
  clear hb2
  clear yH5_0 yH5_1 yH5_2 yH5_3
  go_wp2_with fail
  refine (s_EvalOrder HZ0.out HQw2.out.r (fun b hb => by have := hb; simp only [Iv] at this; (try simp) <;> omega)).mono ?_
  rintro e w3 ⟨vw3_0, rfl, hqw3_0, hb3⟩
  obtain ⟨Aw3_0, nw3_0, cw3_0, rfl⟩ := slv_of hqw3_0.rep
  have HQw3_0 := Lib.hid (Sep.mono hqw3_0 (S' := Iv (w2.heap.size) (w3.heap.size)) (fun b hb => by have := hb; simp [New] at this; exact ⟨by omega, this.2⟩))
  clear hqw3_0
  obtain ⟨q1, hq1⟩ : ∃ zz, zz = ordB m := ⟨_, rfl⟩
  rw [← hq1]
  have HS1 := Lib.hid hq1
  clear hq1
  have zw3 := hb3.size
  try simp at zw3
  have H10 := Lib.hid (RModule.keep H7.out (w' := w3) (fun p hb => hb3.cell (by have : _ < w.heap.size := hb; (try simp) <;> omega)))
  clear H7
  have H11 := Lib.hid (H8.out.below hb3 H8.out.lt)
  clear H8
  have H12 := Lib.hid (QModule.keep HQw2.out (w' := w3) (fun b hb => hb3.block b (by have := hb; simp only [Iv] at this; (try simp) <;> omega)))
  clear HQw2
  have HB13 := Lib.hid (HB9.out.trans (hb3.mono (by have := HB9.out.size; (try simp) <;> omega)))
  clear HB9
  clear hb3
  obtain ⟨yH11_0, yH11_1, yH11_2, yH11_3⟩ := blkS4 H11.out
  go_wp2_with fail
  refine (d_toModule HZ0.out H10.out (fun b hb => by have : _ < w.heap.size := hb; (try simp) <;> omega)).mono ?_
  rintro e w4 ⟨vw4, rfl, hqw4, hb4⟩
  obtain ⟨Aw4_0, nw4_0, cw4_0, Aw4_1, nw4_1, cw4_1, Aw4_2, nw4_2, cw4_2, Aw4_3, nw4_3, cw4_3, rfl⟩ := hqw4.r.form
  have HQw4 := Lib.hid (QModule.mono hqw4 (S' := Iv (w3.heap.size) (w4.heap.size)) (fun b hb => by have := hb; simp [New] at this; exact ⟨by omega, this.2⟩))
  clear hqw4
  have zw4 := hb4.size
  try simp at zw4
  have H14 := Lib.hid (RModule.keep H10.out (w' := w4) (fun p hb => hb4.cell (by have : _ < w.heap.size := hb; (try simp) <;> omega)))
  clear H10
  have H15 := Lib.hid (H11.out.below hb4 H11.out.lt)
  clear H11
  have H16 := Lib.hid (QModule.keep H12.out (w' := w4) (fun b hb => hb4.block b (by have := hb; simp only [Iv] at this; (try simp) <;> omega)))
  clear H12
  have H17 := Lib.hid (Sep.keep HQw3_0.out (w' := w4) (fun b hb => hb4.block b (by have := hb; simp only [Iv] at this; (try simp) <;> omega)))
  clear HQw3_0
  have HB18 := Lib.hid (HB13.out.trans (hb4.mono (by have := HB13.out.size; (try simp) <;> omega)))
  clear HB13
  clear hb4
  have H20 := Lib.hid (RModule.keep H14.out (w' := (w4.alloc (.cells #[.slice Aw4_0 nw4_0 cw4_0, .slice Aw4_1 nw4_1 cw4_1, .slice Aw4_2 nw4_2 cw4_2, .slice Aw4_3 nw4_3 cw4_3] 52))) (fun p hb => World.cell?_alloc_lt _ _ p (by have : _ < w.heap.size := hb; (try simp) <;> omega)))
  clear H14
  have H21 := Lib.hid (H15.out.alloc (.cells #[.slice Aw4_0 nw4_0 cw4_0, .slice Aw4_1 nw4_1 cw4_1, .slice Aw4_2 nw4_2 cw4_2, .slice Aw4_3 nw4_3 cw4_3] 52))
  clear H15
  have H22 := Lib.hid (QModule.keep H16.out (w' := (w4.alloc (.cells #[.slice Aw4_0 nw4_0 cw4_0, .slice Aw4_1 nw4_1 cw4_1, .slice Aw4_2 nw4_2 cw4_2, .slice Aw4_3 nw4_3 cw4_3] 52))) (fun b hb => Below.heap_alloc _ _ b (by have := hb; simp only [Iv] at this; (try simp) <;> omega)))
  clear H16
  have H23 := Lib.hid (Sep.keep H17.out (w' := (w4.alloc (.cells #[.slice Aw4_0 nw4_0 cw4_0, .slice Aw4_1 nw4_1 cw4_1, .slice Aw4_2 nw4_2 cw4_2, .slice Aw4_3 nw4_3 cw4_3] 52))) (fun b hb => Below.heap_alloc _ _ b (by have := hb; simp only [Iv] at this; (try simp) <;> omega)))
  clear H17
  have H24 := Lib.hid (QModule.keep HQw4.out (w' := (w4.alloc (.cells #[.slice Aw4_0 nw4_0 cw4_0, .slice Aw4_1 nw4_1 cw4_1, .slice Aw4_2 nw4_2 cw4_2, .slice Aw4_3 nw4_3 cw4_3] 52))) (fun b hb => Below.heap_alloc _ _ b (by have := hb; simp only [Iv] at this; (try simp) <;> omega)))
  clear HQw4
  have HB25 := Lib.hid (HB18.out.alloc (by have := HB18.out.size; (try simp) <;> omega) (.cells #[.slice Aw4_0 nw4_0 cw4_0, .slice Aw4_1 nw4_1 cw4_1, .slice Aw4_2 nw4_2 cw4_2, .slice Aw4_3 nw4_3 cw4_3] 52))
  clear HB18
  have HX19 := Lib.hid (show Blk (w4.alloc (.cells #[.slice Aw4_0 nw4_0 cw4_0, .slice Aw4_1 nw4_1 cw4_1, .slice Aw4_2 nw4_2 cw4_2, .slice Aw4_3 nw4_3 cw4_3] 52)) (w4.heap.size) 52 #[.slice Aw4_0 nw4_0 cw4_0, .slice Aw4_1 nw4_1 cw4_1, .slice Aw4_2 nw4_2 cw4_2, .slice Aw4_3 nw4_3 cw4_3] from by have h := Blk.new (w4) 52 #[.slice Aw4_0 nw4_0 cw4_0, .slice Aw4_1 nw4_1 cw4_1, .slice Aw4_2 nw4_2 cw4_2, .slice Aw4_3 nw4_3 cw4_3]; simpa using h)
  clear yH11_0 yH11_1 yH11_2 yH11_3
  obtain ⟨yHX19_0, yHX19_1, yHX19_2, yHX19_3⟩ := blkS4 HX19.out
  go_wp2_with fail
  refine (i_EvalOrder HZ0.out H24.out.r (fun b hb => by have := hb; simp only [Iv] at this; (try simp) <;> omega)).mono ?_
  rintro e w5 ⟨vw5_0, rfl, hqw5_0, hb5⟩
  obtain ⟨Aw5_0, nw5_0, cw5_0, rfl⟩ := slv_of hqw5_0.rep
  have HQw5_0 := Lib.hid (Sep.mono hqw5_0 (S' := Iv (w4.heap.size + 1) (w5.heap.size)) (fun b hb => by have := hb; simp [New] at this; exact ⟨by omega, this.2⟩))
  clear hqw5_0
  rw [← HS1.out]
  have zw5 := hb5.size
  try simp at zw5
  have H26 := Lib.hid (RModule.keep H20.out (w' := w5) (fun p hb => hb5.cell (by have : _ < w.heap.size := hb; (try simp) <;> omega)))
  clear H20
  have H27 := Lib.hid (H21.out.below hb5 H21.out.lt)
  clear H21
  have H28 := Lib.hid (QModule.keep H22.out (w' := w5) (fun b hb => hb5.block b (by have := hb; simp only [Iv] at this; (try simp) <;> omega)))
  clear H22
  have H29 := Lib.hid (Sep.keep H23.out (w' := w5) (fun b hb => hb5.block b (by have := hb; simp only [Iv] at this; (try simp) <;> omega)))
  clear H23
  have H30 := Lib.hid (QModule.keep H24.out (w' := w5) (fun b hb => hb5.block b (by have := hb; simp only [Iv] at this; (try simp) <;> omega)))
  clear H24
  have H31 := Lib.hid (HX19.out.below hb5 HX19.out.lt)
  clear HX19
  have HB32 := Lib.hid (HB25.out.trans (hb5.mono (by have := HB25.out.size; (try simp) <;> omega)))
  clear HB25
  clear hb5
  clear yHX19_0 yHX19_1 yHX19_2 yHX19_3
  go_wp2_with fail
  refine (d_eqIntS (ordL_sz m) HQw5_0.out.rep H29.out.rep (fun b hb => by have := hb; simp only [Iv] at this; (try simp) <;> omega) (fun b hb => by have := hb; simp only [Iv] at this; (try simp) <;> omega)).mono ?_
  rintro e w6 ⟨rfl, hb6⟩
  have zw6 := hb6.size
  try simp at zw6
  have H33 := Lib.hid (RModule.keep H26.out (w' := w6) (fun p hb => hb6.cell (by have : _ < w.heap.size := hb; (try simp) <;> omega)))
  clear H26
  have H34 := Lib.hid (H27.out.below hb6 H27.out.lt)
  clear H27
  have H35 := Lib.hid (QModule.keep H28.out (w' := w6) (fun b hb => hb6.block b (by have := hb; simp only [Iv] at this; (try simp) <;> omega)))
  clear H28
  have H36 := Lib.hid (Sep.keep H29.out (w' := w6) (fun b hb => hb6.block b (by have := hb; simp only [Iv] at this; (try simp) <;> omega)))
  clear H29
  have H37 := Lib.hid (QModule.keep H30.out (w' := w6) (fun b hb => hb6.block b (by have := hb; simp only [Iv] at this; (try simp) <;> omega)))
  clear H30
  have H38 := Lib.hid (H31.out.below hb6 H31.out.lt)
  clear H31
  have H39 := Lib.hid (Sep.keep HQw5_0.out (w' := w6) (fun b hb => hb6.block b (by have := hb; simp only [Iv] at this; (try simp) <;> omega)))
  clear HQw5_0
  have HB40 := Lib.hid (HB32.out.trans (hb6.mono (by have := HB32.out.size; (try simp) <;> omega)))
  clear HB32
  clear hb6
  go_wp2_with fail
  refine wp_region_lexC (by kernel_rfl) (by kernel_rfl) (fun x => Below w6.heap.size w6 x) ((Below.refl _ _).drew) (fun lexNE => ?_)
  obtain ⟨cH38_0, cH38_1, cH38_2, cH38_3⟩ := bwS4 (B := w6.heap.size) H38.out H38.out.lt
  obtain ⟨cH34_0, cH34_1, cH34_2, cH34_3⟩ := bwS4 (B := w6.heap.size) H34.out H34.out.lt
  have HL41 := Lib.hid ((Below.refl w6.heap.size w6).drew)
  have H42 := Lib.hid (RModule.keep H33.out (w' := w6.drew) (fun p hb => rfl))
  clear H33
  have H43 := Lib.hid (H34.out.drew)
  clear H34
  have H44 := Lib.hid (QModule.keep H35.out (w' := w6.drew) (fun b hb => rfl))
  clear H35
  have H45 := Lib.hid (Sep.keep H36.out (w' := w6.drew) (fun b hb => rfl))
  clear H36
  have H46 := Lib.hid (QModule.keep H37.out (w' := w6.drew) (fun b hb => rfl))
  clear H37
  have H47 := Lib.hid (H38.out.drew)
  clear H38
  have H48 := Lib.hid (Sep.keep H39.out (w' := w6.drew) (fun b hb => rfl))
  clear H39
  have HB49 := Lib.hid (HB40.out.drew)
  clear HB40
  (repeat (first | (refine lex_read (by first | exact wanted_n rfl | exact wanted_g rfl rfl rfl rfl) (by exact rfl) (fun K hK => ?_); go_big_quiet_op; refine hK _ ?_; clear hK K) | (refine lex_skip' (by exact wanted_g rfl rfl rfl rfl) (fun K hK => ?_); go_simp; refine hK _ ?_; clear hK K)))
  (refine lex_eff (by first | exact wanted_n rfl | exact wanted_g rfl rfl rfl rfl) (by exact rfl) (fun K hK => ?_); go_big_op)
  refine (d_toModule HZ0.out H42.out (fun b hb => by have : _ < w.heap.size := hb; (try simp) <;> omega)).mono ?_
  rintro e w7 ⟨vw7, rfl, hqw7, hb7⟩
  obtain ⟨Aw7_0, nw7_0, cw7_0, Aw7_1, nw7_1, cw7_1, Aw7_2, nw7_2, cw7_2, Aw7_3, nw7_3, cw7_3, rfl⟩ := hqw7.r.form
  have HQw7 := Lib.hid (QModule.mono hqw7 (S' := Iv (w6.heap.size) (w7.heap.size)) (fun b hb => by have := hb; simp [New] at this; exact ⟨by omega, this.2⟩))
  clear hqw7
  have zw7 := hb7.size
  try simp at zw7
  have H50 := Lib.hid (RModule.keep H42.out (w' := w7) (fun p hb => hb7.cell (by have : _ < w.heap.size := hb; (try simp) <;> omega)))
  clear H42
  have H51 := Lib.hid (H43.out.below hb7 H43.out.lt)
  clear H43
  have H52 := Lib.hid (QModule.keep H44.out (w' := w7) (fun b hb => hb7.block b (by have := hb; simp only [Iv] at this; (try simp) <;> omega)))
  clear H44
  have H53 := Lib.hid (Sep.keep H45.out (w' := w7) (fun b hb => hb7.block b (by have := hb; simp only [Iv] at this; (try simp) <;> omega)))
  clear H45
  have H54 := Lib.hid (QModule.keep H46.out (w' := w7) (fun b hb => hb7.block b (by have := hb; simp only [Iv] at this; (try simp) <;> omega)))
  clear H46
  have H55 := Lib.hid (H47.out.below hb7 H47.out.lt)
  clear H47
  have H56 := Lib.hid (Sep.keep H48.out (w' := w7) (fun b hb => hb7.block b (by have := hb; simp only [Iv] at this; (try simp) <;> omega)))
  clear H48
  have HB57 := Lib.hid (HB49.out.trans (hb7.mono (by have := HB49.out.size; (try simp) <;> omega)))
  clear HB49
  have HL58 := Lib.hid (HL41.out.trans (hb7.mono HL41.out.size))
  clear HL41
  refine hK _ _ (Cls.mk' HL58.out) ?_
  clear hK K hb7
  (repeat (first | (refine lex_read (by first | exact wanted_n rfl | exact wanted_g rfl rfl rfl rfl) (by exact rfl) (fun K hK => ?_); go_big_quiet_op; refine hK _ ?_; clear hK K) | (refine lex_skip' (by exact wanted_g rfl rfl rfl rfl) (fun K hK => ?_); go_simp; refine hK _ ?_; clear hK K)))
  (refine lex_eff (by first | exact wanted_n rfl | exact wanted_g rfl rfl rfl rfl) (by exact rfl) (fun K hK => ?_); go_big_op)
  refine (d_eqModule HZ0.out H54.out.r HQw7.out.r (fun b hb => by have := hb; simp only [Iv] at this; (try simp) <;> omega) (fun b hb => by have := hb; simp only [Iv] at this; (try simp) <;> omega)).mono ?_
  rintro e w8 ⟨rfl, hb8⟩
  have zw8 := hb8.size
  try simp at zw8
  have H59 := Lib.hid (RModule.keep H50.out (w' := w8) (fun p hb => hb8.cell (by have : _ < w.heap.size := hb; (try simp) <;> omega)))
  clear H50
  have H60 := Lib.hid (H51.out.below hb8 H51.out.lt)
  clear H51
  have H61 := Lib.hid (QModule.keep H52.out (w' := w8) (fun b hb => hb8.block b (by have := hb; simp only [Iv] at this; (try simp) <;> omega)))
  clear H52
  have H62 := Lib.hid (Sep.keep H53.out (w' := w8) (fun b hb => hb8.block b (by have := hb; simp only [Iv] at this; (try simp) <;> omega)))
  clear H53
  have H63 := Lib.hid (QModule.keep H54.out (w' := w8) (fun b hb => hb8.block b (by have := hb; simp only [Iv] at this; (try simp) <;> omega)))
  clear H54
  have H64 := Lib.hid (H55.out.below hb8 H55.out.lt)
  clear H55
  have H65 := Lib.hid (Sep.keep H56.out (w' := w8) (fun b hb => hb8.block b (by have := hb; simp only [Iv] at this; (try simp) <;> omega)))
  clear H56
  have H66 := Lib.hid (QModule.keep HQw7.out (w' := w8) (fun b hb => hb8.block b (by have := hb; simp only [Iv] at this; (try simp) <;> omega)))
  clear HQw7
  have HB67 := Lib.hid (HB57.out.trans (hb8.mono (by have := HB57.out.size; (try simp) <;> omega)))
  clear HB57
  have HL68 := Lib.hid (HL58.out.trans (hb8.mono HL58.out.size))
  clear HL58
  refine hK _ _ (Cls.mk' HL68.out) ?_
  clear hK K hb8
  (repeat (first | (refine lex_read (by first | exact wanted_n rfl | exact wanted_g rfl rfl rfl rfl) (by exact rfl) (fun K hK => ?_); go_big_quiet_op; refine hK _ ?_; clear hK K) | (refine lex_skip' (by exact wanted_g rfl rfl rfl rfl) (fun K hK => ?_); go_simp; refine hK _ ?_; clear hK K)))
  (refine lex_nil ?_)
  clear lexNE cH38_0 cH38_1 cH38_2 cH38_3 cH34_0 cH34_1 cH34_2 cH34_3
  obtain ⟨yH64_0, yH64_1, yH64_2, yH64_3⟩ := blkS4 H64.out
  go_wp2_with fail
  have hmb69 : nModule m ≤ 8388608 := by have h1 := nModule_le m; have h2 : sModule m ≤ 1048576 := HZ0.out; omega
  refine (d_markModule (1) (by omega) H63.out (fun b hb => by have := hb; simp only [Iv] at this; (try simp) <;> omega)).mono ?_
  rintro e w9 ⟨rfl, hqw9, hb9⟩
  obtain ⟨mk70, hmk70⟩ : ∃ zz, zz = 1 + nModule m := ⟨_, rfl⟩
  rw [← hmk70]
  have hmk70b : mk70 ≤ 1073741824 := by omega
  have HMmk70 := Lib.hid hmk70
  clear hmk70 hmb69
  clear H63
  have zw9 := hb9.size
  try simp at zw9
  have H71 := Lib.hid (RModule.keep H59.out (w' := w9) (fun p hb => hb9.cell (by have : _ < w.heap.size := hb; (try simp) <;> omega) (fun hc => by have := hb; simp only [Iv] at hc; omega)))
  clear H59
  have H72 := Lib.hid (hb9.blk H60.out (fun hc => by simp only [Iv] at hc; (try simp at hc) <;> omega))
  clear H60
  have H73 := Lib.hid (QModule.keep H61.out (w' := w9) (fun b hb => hb9.block b (by have := hb; simp only [Iv] at this; (try simp) <;> omega) (fun hc => by have := hb; simp only [Iv] at this; simp only [Iv] at hc; omega)))
  clear H61
  have H74 := Lib.hid (Sep.keep H62.out (w' := w9) (fun b hb => hb9.block b (by have := hb; simp only [Iv] at this; (try simp) <;> omega) (fun hc => by have := hb; simp only [Iv] at this; simp only [Iv] at hc; omega)))
  clear H62
  have H75 := Lib.hid (hb9.blk H64.out (fun hc => by simp only [Iv] at hc; (try simp at hc) <;> omega))
  clear H64
  have H76 := Lib.hid (Sep.keep H65.out (w' := w9) (fun b hb => hb9.block b (by have := hb; simp only [Iv] at this; (try simp) <;> omega) (fun hc => by have := hb; simp only [Iv] at this; simp only [Iv] at hc; omega)))
  clear H65
  have H77 := Lib.hid (QModule.keep H66.out (w' := w9) (fun b hb => hb9.block b (by have := hb; simp only [Iv] at this; (try simp) <;> omega) (fun hc => by have := hb; simp only [Iv] at this; simp only [Iv] at hc; omega)))
  clear H66
  have HB78 := Lib.hid (HB67.out.trans (hb9.below (by have := HB67.out.size; (try simp) <;> omega) (fun b hb => by simp only [Iv] at hb; omega)))
  clear HB67
  clear hb9
  have HQw9 := Lib.hid hqw9
  clear hqw9
  clear yH64_0 yH64_1 yH64_2 yH64_3
  go_wp2_with fail
  refine (d_eqIntS (ordL_sz m) H76.out.rep H74.out.rep (fun b hb => by have := hb; simp only [Iv] at this; (try simp) <;> omega) (fun b hb => by have := hb; simp only [Iv] at this; (try simp) <;> omega)).mono ?_
  rintro e w10 ⟨rfl, hb10⟩
  have zw10 := hb10.size
  try simp at zw10
  have H79 := Lib.hid (RModule.keep H71.out (w' := w10) (fun p hb => hb10.cell (by have : _ < w.heap.size := hb; (try simp) <;> omega)))
  clear H71
  have H80 := Lib.hid (H72.out.below hb10 H72.out.lt)
  clear H72
  have H81 := Lib.hid (QModule.keep H73.out (w' := w10) (fun b hb => hb10.block b (by have := hb; simp only [Iv] at this; (try simp) <;> omega)))
  clear H73
  have H82 := Lib.hid (Sep.keep H74.out (w' := w10) (fun b hb => hb10.block b (by have := hb; simp only [Iv] at this; (try simp) <;> omega)))
  clear H74
  have H83 := Lib.hid (H75.out.below hb10 H75.out.lt)
  clear H75
  have H84 := Lib.hid (Sep.keep H76.out (w' := w10) (fun b hb => hb10.block b (by have := hb; simp only [Iv] at this; (try simp) <;> omega)))
  clear H76
  have H85 := Lib.hid (QModule.keep H77.out (w' := w10) (fun b hb => hb10.block b (by have := hb; simp only [Iv] at this; (try simp) <;> omega)))
  clear H77
  have H86 := Lib.hid (QModule.keep HQw9.out (w' := w10) (fun b hb => hb10.block b (by have := hb; simp only [Iv] at this; (try simp) <;> omega)))
  clear HQw9
  have HB87 := Lib.hid (HB78.out.trans (hb10.mono (by have := HB78.out.size; (try simp) <;> omega)))
  clear HB78
  clear hb10
  go_wp2_with fail
  have hmb88 : nuL nInt (ordL m) ≤ 8388608 := by have h1 := nuL_Int_le (ordL m); have h2 : szL sInt (ordL m) ≤ 1048576 := ordL_sz m; omega
  refine (d_markIntS (1) (by omega) H84.out (fun b hb => by have := hb; simp only [Iv] at this; (try simp) <;> omega)).mono ?_
  rintro e w11 ⟨rfl, hqw11, hb11⟩
  obtain ⟨mk89, hmk89⟩ : ∃ zz, zz = 1 + nuL nInt (ordL m) := ⟨_, rfl⟩
  rw [← hmk89]
  have hmk89b : mk89 ≤ 1073741824 := by omega
  have HMmk89 := Lib.hid hmk89
  clear hmk89 hmb88
  clear H84
  have zw11 := hb11.size
  try simp at zw11
  have H90 := Lib.hid (RModule.keep H79.out (w' := w11) (fun p hb => hb11.cell (by have : _ < w.heap.size := hb; (try simp) <;> omega) (fun hc => by have := hb; simp only [Iv] at hc; omega)))
  clear H79
  have H91 := Lib.hid (hb11.blk H80.out (fun hc => by simp only [Iv] at hc; (try simp at hc) <;> omega))
  clear H80
  have H92 := Lib.hid (QModule.keep H81.out (w' := w11) (fun b hb => hb11.block b (by have := hb; simp only [Iv] at this; (try simp) <;> omega) (fun hc => by have := hb; simp only [Iv] at this; simp only [Iv] at hc; omega)))
  clear H81
  have H93 := Lib.hid (Sep.keep H82.out (w' := w11) (fun b hb => hb11.block b (by have := hb; simp only [Iv] at this; (try simp) <;> omega) (fun hc => by have := hb; simp only [Iv] at this; simp only [Iv] at hc; omega)))
  clear H82
  have H94 := Lib.hid (hb11.blk H83.out (fun hc => by simp only [Iv] at hc; (try simp at hc) <;> omega))
  clear H83
  have H95 := Lib.hid (QModule.keep H85.out (w' := w11) (fun b hb => hb11.block b (by have := hb; simp only [Iv] at this; (try simp) <;> omega) (fun hc => by have := hb; simp only [Iv] at this; simp only [Iv] at hc; omega)))
  clear H85
  have H96 := Lib.hid (QModule.keep H86.out (w' := w11) (fun b hb => hb11.block b (by have := hb; simp only [Iv] at this; (try simp) <;> omega) (fun hc => by have := hb; simp only [Iv] at this; simp only [Iv] at hc; omega)))
  clear H86
  have HB97 := Lib.hid (HB87.out.trans (hb11.below (by have := HB87.out.size; (try simp) <;> omega) (fun b hb => by simp only [Iv] at hb; omega)))
  clear HB87
  clear hb11
  have HQw11 := Lib.hid hqw11
  clear hqw11
  go_wp2_with fail
  have hmb98 : 1 + nuL nInt (ordL m) ≤ 1099511627776 := by rw [← HMmk89.out]; omega
  refine (d_heldIntS (1) (by omega) HQw11.out.rep (fun b hb => by have := hb; simp only [Iv] at this; (try simp) <;> omega)).mono ?_
  rintro e w12 ⟨rfl, hb12⟩
  rw [← HMmk89.out]
  clear hmb98
  have zw12 := hb12.size
  try simp at zw12
  have H99 := Lib.hid (RModule.keep H90.out (w' := w12) (fun p hb => hb12.cell (by have : _ < w.heap.size := hb; (try simp) <;> omega)))
  clear H90
  have H100 := Lib.hid (H91.out.below hb12 H91.out.lt)
  clear H91
  have H101 := Lib.hid (QModule.keep H92.out (w' := w12) (fun b hb => hb12.block b (by have := hb; simp only [Iv] at this; (try simp) <;> omega)))
  clear H92
  have H102 := Lib.hid (Sep.keep H93.out (w' := w12) (fun b hb => hb12.block b (by have := hb; simp only [Iv] at this; (try simp) <;> omega)))
  clear H93
  have H103 := Lib.hid (H94.out.below hb12 H94.out.lt)
  clear H94
  have H104 := Lib.hid (QModule.keep H95.out (w' := w12) (fun b hb => hb12.block b (by have := hb; simp only [Iv] at this; (try simp) <;> omega)))
  clear H95
  have H105 := Lib.hid (QModule.keep H96.out (w' := w12) (fun b hb => hb12.block b (by have := hb; simp only [Iv] at this; (try simp) <;> omega)))
  clear H96
  have H106 := Lib.hid (Sep.keep HQw11.out (w' := w12) (fun b hb => hb12.block b (by have := hb; simp only [Iv] at this; (try simp) <;> omega)))
  clear HQw11
  have HB107 := Lib.hid (HB97.out.trans (hb12.mono (by have := HB97.out.size; (try simp) <;> omega)))
  clear HB97
  clear hb12
  obtain ⟨yH100_0, yH100_1, yH100_2, yH100_3⟩ := blkS4 H100.out
  go_wp2_with fail
  refine (d_toModule HZ0.out H99.out (fun b hb => by have : _ < w.heap.size := hb; (try simp) <;> omega)).mono ?_
  rintro e w13 ⟨vw13, rfl, hqw13, hb13⟩
  obtain ⟨Aw13_0, nw13_0, cw13_0, Aw13_1, nw13_1, cw13_1, Aw13_2, nw13_2, cw13_2, Aw13_3, nw13_3, cw13_3, rfl⟩ := hqw13.r.form
  have HQw13 := Lib.hid (QModule.mono hqw13 (S' := Iv (w12.heap.size) (w13.heap.size)) (fun b hb => by have := hb; simp [New] at this; exact ⟨by omega, this.2⟩))
  clear hqw13
  have zw13 := hb13.size
  try simp at zw13
  have H108 := Lib.hid (RModule.keep H99.out (w' := w13) (fun p hb => hb13.cell (by have : _ < w.heap.size := hb; (try simp) <;> omega)))
  clear H99
  have H109 := Lib.hid (H100.out.below hb13 H100.out.lt)
  clear H100
  have H110 := Lib.hid (QModule.keep H101.out (w' := w13) (fun b hb => hb13.block b (by have := hb; simp only [Iv] at this; (try simp) <;> omega)))
  clear H101
  have H111 := Lib.hid (Sep.keep H102.out (w' := w13) (fun b hb => hb13.block b (by have := hb; simp only [Iv] at this; (try simp) <;> omega)))
  clear H102
  have H112 := Lib.hid (H103.out.below hb13 H103.out.lt)
  clear H103
  have H113 := Lib.hid (QModule.keep H104.out (w' := w13) (fun b hb => hb13.block b (by have := hb; simp only [Iv] at this; (try simp) <;> omega)))
  clear H104
  have H114 := Lib.hid (QModule.keep H105.out (w' := w13) (fun b hb => hb13.block b (by have := hb; simp only [Iv] at this; (try simp) <;> omega)))
  clear H105
  have H115 := Lib.hid (Sep.keep H106.out (w' := w13) (fun b hb => hb13.block b (by have := hb; simp only [Iv] at this; (try simp) <;> omega)))
  clear H106
  have HB116 := Lib.hid (HB107.out.trans (hb13.mono (by have := HB107.out.size; (try simp) <;> omega)))
  clear HB107
  clear hb13
  clear yH100_0 yH100_1 yH100_2 yH100_3
  go_wp2_with fail
  refine (i_EvalOrder HZ0.out HQw13.out.r (fun b hb => by have := hb; simp only [Iv] at this; (try simp) <;> omega)).mono ?_
  rintro e w14 ⟨vw14_0, rfl, hqw14_0, hb14⟩
  obtain ⟨Aw14_0, nw14_0, cw14_0, rfl⟩ := slv_of hqw14_0.rep
  have HQw14_0 := Lib.hid (Sep.mono hqw14_0 (S' := Iv (w13.heap.size) (w14.heap.size)) (fun b hb => by have := hb; simp [New] at this; exact ⟨by omega, this.2⟩))
  clear hqw14_0
  rw [← HS1.out]
  have zw14 := hb14.size
  try simp at zw14
  have H117 := Lib.hid (RModule.keep H108.out (w' := w14) (fun p hb => hb14.cell (by have : _ < w.heap.size := hb; (try simp) <;> omega)))
  clear H108
  have H118 := Lib.hid (H109.out.below hb14 H109.out.lt)
  clear H109
  have H119 := Lib.hid (QModule.keep H110.out (w' := w14) (fun b hb => hb14.block b (by have := hb; simp only [Iv] at this; (try simp) <;> omega)))
  clear H110
  have H120 := Lib.hid (Sep.keep H111.out (w' := w14) (fun b hb => hb14.block b (by have := hb; simp only [Iv] at this; (try simp) <;> omega)))
  clear H111
  have H121 := Lib.hid (H112.out.below hb14 H112.out.lt)
  clear H112
  have H122 := Lib.hid (QModule.keep H113.out (w' := w14) (fun b hb => hb14.block b (by have := hb; simp only [Iv] at this; (try simp) <;> omega)))
  clear H113
  have H123 := Lib.hid (QModule.keep H114.out (w' := w14) (fun b hb => hb14.block b (by have := hb; simp only [Iv] at this; (try simp) <;> omega)))
  clear H114
  have H124 := Lib.hid (Sep.keep H115.out (w' := w14) (fun b hb => hb14.block b (by have := hb; simp only [Iv] at this; (try simp) <;> omega)))
  clear H115
  have H125 := Lib.hid (QModule.keep HQw13.out (w' := w14) (fun b hb => hb14.block b (by have := hb; simp only [Iv] at this; (try simp) <;> omega)))
  clear HQw13
  have HB126 := Lib.hid (HB116.out.trans (hb14.mono (by have := HB116.out.size; (try simp) <;> omega)))
  clear HB116
  clear hb14
  go_wp2_with fail
  refine (d_eqIntS (ordL_sz m) HQw14_0.out.rep H120.out.rep (fun b hb => by have := hb; simp only [Iv] at this; (try simp) <;> omega) (fun b hb => by have := hb; simp only [Iv] at this; (try simp) <;> omega)).mono ?_
  rintro e w15 ⟨rfl, hb15⟩
  have zw15 := hb15.size
  try simp at zw15
  have H127 := Lib.hid (RModule.keep H117.out (w' := w15) (fun p hb => hb15.cell (by have : _ < w.heap.size := hb; (try simp) <;> omega)))
  clear H117
  have H128 := Lib.hid (H118.out.below hb15 H118.out.lt)
  clear H118
  have H129 := Lib.hid (QModule.keep H119.out (w' := w15) (fun b hb => hb15.block b (by have := hb; simp only [Iv] at this; (try simp) <;> omega)))
  clear H119
  have H130 := Lib.hid (Sep.keep H120.out (w' := w15) (fun b hb => hb15.block b (by have := hb; simp only [Iv] at this; (try simp) <;> omega)))
  clear H120
  have H131 := Lib.hid (H121.out.below hb15 H121.out.lt)
  clear H121
  have H132 := Lib.hid (QModule.keep H122.out (w' := w15) (fun b hb => hb15.block b (by have := hb; simp only [Iv] at this; (try simp) <;> omega)))
  clear H122
  have H133 := Lib.hid (QModule.keep H123.out (w' := w15) (fun b hb => hb15.block b (by have := hb; simp only [Iv] at this; (try simp) <;> omega)))
  clear H123
  have H134 := Lib.hid (Sep.keep H124.out (w' := w15) (fun b hb => hb15.block b (by have := hb; simp only [Iv] at this; (try simp) <;> omega)))
  clear H124
  have H135 := Lib.hid (QModule.keep H125.out (w' := w15) (fun b hb => hb15.block b (by have := hb; simp only [Iv] at this; (try simp) <;> omega)))
  clear H125
  have H136 := Lib.hid (Sep.keep HQw14_0.out (w' := w15) (fun b hb => hb15.block b (by have := hb; simp only [Iv] at this; (try simp) <;> omega)))
  clear HQw14_0
  have HB137 := Lib.hid (HB126.out.trans (hb15.mono (by have := HB126.out.size; (try simp) <;> omega)))
  clear HB126
  clear hb15
  go_wp2_with fail
  have hmb138 : 1 + nuL nInt (ordL m) ≤ 1099511627776 := by rw [← HMmk89.out]; omega
  refine (d_heldIntS (1) (by omega) H134.out.rep (fun b hb => by have := hb; simp only [Iv] at this; (try simp) <;> omega)).mono ?_
  rintro e w16 ⟨rfl, hb16⟩
  rw [← HMmk89.out]
  clear hmb138
  have zw16 := hb16.size
  try simp at zw16
  have H139 := Lib.hid (RModule.keep H127.out (w' := w16) (fun p hb => hb16.cell (by have : _ < w.heap.size := hb; (try simp) <;> omega)))
  clear H127
  have H140 := Lib.hid (H128.out.below hb16 H128.out.lt)
  clear H128
  have H141 := Lib.hid (QModule.keep H129.out (w' := w16) (fun b hb => hb16.block b (by have := hb; simp only [Iv] at this; (try simp) <;> omega)))
  clear H129
  have H142 := Lib.hid (Sep.keep H130.out (w' := w16) (fun b hb => hb16.block b (by have := hb; simp only [Iv] at this; (try simp) <;> omega)))
  clear H130
  have H143 := Lib.hid (H131.out.below hb16 H131.out.lt)
  clear H131
  have H144 := Lib.hid (QModule.keep H132.out (w' := w16) (fun b hb => hb16.block b (by have := hb; simp only [Iv] at this; (try simp) <;> omega)))
  clear H132
  have H145 := Lib.hid (QModule.keep H133.out (w' := w16) (fun b hb => hb16.block b (by have := hb; simp only [Iv] at this; (try simp) <;> omega)))
  clear H133
  have H146 := Lib.hid (Sep.keep H134.out (w' := w16) (fun b hb => hb16.block b (by have := hb; simp only [Iv] at this; (try simp) <;> omega)))
  clear H134
  have H147 := Lib.hid (QModule.keep H135.out (w' := w16) (fun b hb => hb16.block b (by have := hb; simp only [Iv] at this; (try simp) <;> omega)))
  clear H135
  have H148 := Lib.hid (Sep.keep H136.out (w' := w16) (fun b hb => hb16.block b (by have := hb; simp only [Iv] at this; (try simp) <;> omega)))
  clear H136
  have HB149 := Lib.hid (HB137.out.trans (hb16.mono (by have := HB137.out.size; (try simp) <;> omega)))
  clear HB137
  clear hb16
  go_wp2_with fail
  go_ret
  exact ⟨rfl, HB149.out⟩
set_option maxRecDepth 100000 in
theorem lifted_FnExactEvalOrder (os : Os) (started : os.Started) (H : Type) (enc : TypeId × Value → H) :
    ReturnsInHanded {} Try.checked os 6 .any (Rows.fnExactEvalOrderSpec.pre6 enc Try.prog Try.f6 Rows.fnExactEvalOrderRow.domain false) (Rows.fnExactEvalOrderSpec.post enc Try.prog Try.f6 false true false false) := by
  refine lift (F := 6) (fn := Try.f6) (s := Rows.fnExactEvalOrderSpec) (conds := Rows.fnExactEvalOrderRow.domain) (by kernel_rfl) Try.func6 (by kernel_rfl) rfl (by kernel_rfl) ?_ ?_ os started H enc
    (ChangeSpec.witness6 (enc := enc) (C := Try.checked) false ⟨#[], #[.agg #[.slice none 0 0, .slice none 0 0, .slice none 0 0, .slice none 0 0]], []⟩ 8 (by kernel_rfl) (by kernel_rfl) (by kernel_rfl) (by kernel_rfl))
  · intro H ds hl
    rw [Try.params6] at hl
    match ds, hl with
    | [d0], _ => exact ⟨rfl, rfl, rfl⟩
  · intro W base args H enc ds p hval hA hlt
    rw [Try.params6] at hA hval
    obtain ⟨v0, vs0, e0, es0, p0, q0, hargs, rfl, rfl, h0, r0⟩ := trodAll_cons hA
    obtain ⟨rfl, rfl, rfl⟩ := trodAll_nil r0
    obtain rfl : args = #[v0] := by cases args; simp_all
    obtain ⟨x0, w0⟩ := op_Module (hval 0 42 v0 rfl rfl) h0 (fun x hx => hlt x (by simp [hx]))
    exact walk_FnExactEvalOrder v0 x0 W w0
theorem facts_FnExactEvalOrder : joinedFacts Try.pinned.checked.prog 6 Try.f6 Rows.fnExactEvalOrderSpec Rows.fnExactEvalOrderRow = true :=
  facts_of (P := Try.prog) mayE liftE makeE rfl rfl (by kernel_rfl) (by kernel_rfl) (by kernel_rfl) (by kernel_rfl) (by kernel_rfl) (by kernel_rfl) (by kernel_rfl) (by kernel_rfl) (by kernel_rfl) (by kernel_rfl) (by kernel_rfl) (by kernel_rfl) (by kernel_rfl) rfl rfl (by kernel_rfl) (by kernel_rfl) (by kernel_rfl) (by kernel_rfl) (by kernel_rfl) (by kernel_rfl) (by kernel_rfl) (by kernel_rfl) (by kernel_rfl) (by kernel_rfl) (by kernel_rfl) rfl rfl (by kernel_rfl) (by kernel_rfl) (by kernel_rfl)
theorem over_FnExactEvalOrder : Rows.fnExactEvalOrderRow.holds Try.pinned (OpenSpec.ofChange Rows.fnExactEvalOrderSpec) :=
  OpenClaim.holds_of_wide 6 Try.f6 rfl rfl rfl rfl rfl rfl rfl ⟨rfl, rfl, rfl, rfl, rfl⟩ rfl rfl rfl rfl rfl (by kernel_rfl) Try.func6 facts_FnExactEvalOrder
    (of_decide_eq_true (by kernel_rfl)) (by unfold Func.isWrapper; first | (rw [if_pos (by decide +kernel)]; kernel_rfl) | (rw [if_neg (by decide +kernel)]; exact ⟨rfl, rfl⟩))
    (fun os started H enc _ => lifted_FnExactEvalOrder os started H enc)
theorem FnExactEvalOrder_holds : Rows.FnExactEvalOrderSaid := over_FnExactEvalOrder
end Go.Proofs.Ytjiijjihkgipkaa
