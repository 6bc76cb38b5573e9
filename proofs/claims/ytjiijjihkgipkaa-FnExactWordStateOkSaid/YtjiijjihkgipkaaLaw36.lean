/- Law of states: for every module and state the program's WordStateOk is the reference's. Conditions: none. -/
import Derived.Test.YtjiijjihkgipkaaFrame9
import Derived.Test.YtjiijjihkgipkaaWskS
import Derived.Test.YtjiijjihkgipkaaGa
import Derived.Outline
namespace Go.Proofs.Ytjiijjihkgipkaa
open Go.ChangeShapes Go.WideShapes Go.ChangeAt Go.RowKit

set_option maxRecDepth 100000 in
set_option maxHeartbeats 8000000 in
theorem walk_FnExactWordStateOk (v0 : Value) (m : TModule) (v1 : Value) (st : TWordState) (w : World) (h0 : RModule (w) (fun b => b < w.heap.size) (v0) m ∧ WfModule m) (h1 : RWordState (w) (fun b => b < w.heap.size) (v1) st ∧ WfWordState st) :
    Calls Try.prog 10 #[v0, v1] w fun e w' => e = .returned (.bool true) ∧ Below w.heap.size w w' := by
  obtain ⟨h0, wf0⟩ := h0
  have WF0 := Lib.hid wf0
  clear wf0
  obtain ⟨h1, wf1⟩ := h1
  have WF1 := Lib.hid wf1
  clear wf1
  obtain ⟨Aa0_0, na0_0, ca0_0, Aa0_1, na0_1, ca0_1, Aa0_2, na0_2, ca0_2, Aa0_3, na0_3, ca0_3, rfl⟩ := h0.form
  obtain ⟨Aa1_0, na1_0, ca1_0, Aa1_1, na1_1, ca1_1, rfl⟩ := h1.form
  have HB0 := Lib.hid (Below.refl w.heap.size w)
  have HR0 := Lib.hid h0
  clear h0
  have HR1 := Lib.hid h1
  clear h1
  go_enter Try.func10, Try.ntmps10
  have H2 := Lib.hid (RModule.keep HR0.out (w' := (w.alloc (.cells #[.slice Aa0_0 na0_0 ca0_0, .slice Aa0_1 na0_1 ca0_1, .slice Aa0_2 na0_2 ca0_2, .slice Aa0_3 na0_3 ca0_3] 42))) (fun p hb => World.cell?_alloc_lt _ _ p (by have : _ < w.heap.size := hb; (try simp) <;> omega)))
  clear HR0
  have H3 := Lib.hid (RWordState.keep HR1.out (w' := (w.alloc (.cells #[.slice Aa0_0 na0_0 ca0_0, .slice Aa0_1 na0_1 ca0_1, .slice Aa0_2 na0_2 ca0_2, .slice Aa0_3 na0_3 ca0_3] 42))) (fun p hb => World.cell?_alloc_lt _ _ p (by have : _ < w.heap.size := hb; (try simp) <;> omega)))
  clear HR1
  have HB4 := Lib.hid (HB0.out.alloc (by have := HB0.out.size; (try simp) <;> omega) (.cells #[.slice Aa0_0 na0_0 ca0_0, .slice Aa0_1 na0_1 ca0_1, .slice Aa0_2 na0_2 ca0_2, .slice Aa0_3 na0_3 ca0_3] 42))
  clear HB0
  have HX1 := Lib.hid (show Blk (w.alloc (.cells #[.slice Aa0_0 na0_0 ca0_0, .slice Aa0_1 na0_1 ca0_1, .slice Aa0_2 na0_2 ca0_2, .slice Aa0_3 na0_3 ca0_3] 42)) (w.heap.size) 42 #[.slice Aa0_0 na0_0 ca0_0, .slice Aa0_1 na0_1 ca0_1, .slice Aa0_2 na0_2 ca0_2, .slice Aa0_3 na0_3 ca0_3] from by have h := Blk.new (w) 42 #[.slice Aa0_0 na0_0 ca0_0, .slice Aa0_1 na0_1 ca0_1, .slice Aa0_2 na0_2 ca0_2, .slice Aa0_3 na0_3 ca0_3]; simpa using h)
  have H6 := Lib.hid (RModule.keep H2.out (w' := ((w.alloc (.cells #[.slice Aa0_0 na0_0 ca0_0, .slice Aa0_1 na0_1 ca0_1, .slice Aa0_2 na0_2 ca0_2, .slice Aa0_3 na0_3 ca0_3] 42)).alloc (.cells #[.slice Aa1_0 na1_0 ca1_0, .slice Aa1_1 na1_1 ca1_1] 66))) (fun p hb => World.cell?_alloc_lt _ _ p (by have : _ < w.heap.size := hb; (try simp) <;> omega)))
  clear H2
  have H7 := Lib.hid (RWordState.keep H3.out (w' := ((w.alloc (.cells #[.slice Aa0_0 na0_0 ca0_0, .slice Aa0_1 na0_1 ca0_1, .slice Aa0_2 na0_2 ca0_2, .slice Aa0_3 na0_3 ca0_3] 42)).alloc (.cells #[.slice Aa1_0 na1_0 ca1_0, .slice Aa1_1 na1_1 ca1_1] 66))) (fun p hb => World.cell?_alloc_lt _ _ p (by have : _ < w.heap.size := hb; (try simp) <;> omega)))
  clear H3
  have H8 := Lib.hid (HX1.out.alloc (.cells #[.slice Aa1_0 na1_0 ca1_0, .slice Aa1_1 na1_1 ca1_1] 66))
  clear HX1
  have HB9 := Lib.hid (HB4.out.alloc (by have := HB4.out.size; (try simp) <;> omega) (.cells #[.slice Aa1_0 na1_0 ca1_0, .slice Aa1_1 na1_1 ca1_1] 66))
  clear HB4
  have HX5 := Lib.hid (show Blk ((w.alloc (.cells #[.slice Aa0_0 na0_0 ca0_0, .slice Aa0_1 na0_1 ca0_1, .slice Aa0_2 na0_2 ca0_2, .slice Aa0_3 na0_3 ca0_3] 42)).alloc (.cells #[.slice Aa1_0 na1_0 ca1_0, .slice Aa1_1 na1_1 ca1_1] 66)) (w.heap.size + 1) 66 #[.slice Aa1_0 na1_0 ca1_0, .slice Aa1_1 na1_1 ca1_1] from by have h := Blk.new ((w.alloc (.cells #[.slice Aa0_0 na0_0 ca0_0, .slice Aa0_1 na0_1 ca0_1, .slice Aa0_2 na0_2 ca0_2, .slice Aa0_3 na0_3 ca0_3] 42))) 66 #[.slice Aa1_0 na1_0 ca1_0, .slice Aa1_1 na1_1 ca1_1]; simpa using h)
  obtain ⟨yH8_0, yH8_1, yH8_2, yH8_3⟩ := blkS4 H8.out
  go_wp2_with fail
  refine (d_szModule (1048576) (by omega) H6.out (fun b hb => by have : _ < w.heap.size := hb; (try simp) <;> omega)).mono ?_
  rintro e w1 ⟨rfl, hb1⟩
  obtain ⟨cz0, hcz0⟩ : ∃ zz, zz = sModule m := ⟨_, rfl⟩
  rw [← hcz0]
  have zw1 := hb1.size
  try simp at zw1
  have H10 := Lib.hid (RModule.keep H6.out (w' := w1) (fun p hb => hb1.cell (by have : _ < w.heap.size := hb; (try simp) <;> omega)))
  clear H6
  have H11 := Lib.hid (RWordState.keep H7.out (w' := w1) (fun p hb => hb1.cell (by have : _ < w.heap.size := hb; (try simp) <;> omega)))
  clear H7
  have H12 := Lib.hid (H8.out.below hb1 H8.out.lt)
  clear H8
  have H13 := Lib.hid (HX5.out.below hb1 HX5.out.lt)
  clear HX5
  have HB14 := Lib.hid (HB9.out.trans (hb1.mono (by have := HB9.out.size; (try simp) <;> omega)))
  clear HB9
  clear hb1
  by_cases bcz0 : cz0 ≤ 1048576
  rotate_left
  · rw [leftD_no bcz0]
    clear hcz0
    go_wp2_with fail
    go_ret
    exact ⟨rfl, HB14.out⟩
  obtain ⟨lf0, hlf0⟩ : ∃ zz, zz = 1048576 - cz0 := ⟨_, rfl⟩
  rw [leftD_yes bcz0, ← hlf0]
  have HZ0 := Lib.hid (show sModule m ≤ 1048576 by rw [← hcz0]; omega)
  have hllf0 : lf0 ≤ 1048576 := by omega
  clear hcz0 bcz0 hlf0
  clear yH8_0 yH8_1 yH8_2 yH8_3
  obtain ⟨yH13_0, yH13_1⟩ := blkS2 H13.out
  go_wp2_with fail
  refine (d_szWordState (lf0) (by omega) H11.out (fun b hb => by have : _ < w.heap.size := hb; (try simp) <;> omega)).mono ?_
  rintro e w2 ⟨rfl, hb2⟩
  obtain ⟨cz1, hcz1⟩ : ∃ zz, zz = sWordState st := ⟨_, rfl⟩
  rw [← hcz1]
  have zw2 := hb2.size
  try simp at zw2
  have H15 := Lib.hid (RModule.keep H10.out (w' := w2) (fun p hb => hb2.cell (by have : _ < w.heap.size := hb; (try simp) <;> omega)))
  clear H10
  have H16 := Lib.hid (RWordState.keep H11.out (w' := w2) (fun p hb => hb2.cell (by have : _ < w.heap.size := hb; (try simp) <;> omega)))
  clear H11
  have H17 := Lib.hid (H12.out.below hb2 H12.out.lt)
  clear H12
  have H18 := Lib.hid (H13.out.below hb2 H13.out.lt)
  clear H13
  have HB19 := Lib.hid (HB14.out.trans (hb2.mono (by have := HB14.out.size; (try simp) <;> omega)))
  clear HB14
  clear hb2
  by_cases bcz1 : cz1 ≤ lf0
  rotate_left
  · rw [leftD_no bcz1]
    clear hcz1
    go_wp2_with fail
    go_ret
    exact ⟨rfl, HB19.out⟩
  obtain ⟨lf1, hlf1⟩ : ∃ zz, zz = lf0 - cz1 := ⟨_, rfl⟩
  rw [leftD_yes bcz1, ← hlf1]
  have HZ1 := Lib.hid (show sWordState st ≤ 1048576 by rw [← hcz1]; omega)
  have hllf1 : lf1 ≤ 1048576 := by omega
  clear hcz1 bcz1 hlf1
  clear yH13_0 yH13_1
  go_wp2_with fail
  refine wp_region_lexC (by kernel_rfl) (by kernel_rfl) (fun x => Below w2.heap.size w2 x) ((Below.refl _ _).drew) (fun lexNE => ?_)
  obtain ⟨cH17_0, cH17_1, cH17_2, cH17_3⟩ := bwS4 (B := w2.heap.size) H17.out H17.out.lt
  obtain ⟨cH18_0, cH18_1⟩ := bwS2 (B := w2.heap.size) H18.out H18.out.lt
  have HL20 := Lib.hid ((Below.refl w2.heap.size w2).drew)
  have H21 := Lib.hid (RModule.keep H15.out (w' := w2.drew) (fun p hb => rfl))
  clear H15
  have H22 := Lib.hid (RWordState.keep H16.out (w' := w2.drew) (fun p hb => rfl))
  clear H16
  have H23 := Lib.hid (H17.out.drew)
  clear H17
  have H24 := Lib.hid (H18.out.drew)
  clear H18
  have HB25 := Lib.hid (HB19.out.drew)
  clear HB19
  (repeat (first | (refine lex_read (by first | exact wanted_n rfl | exact wanted_g rfl rfl rfl rfl) (by exact rfl) (fun K hK => ?_); go_big_quiet_op; refine hK _ ?_; clear hK K) | (refine lex_skip' (by exact wanted_g rfl rfl rfl rfl) (fun K hK => ?_); go_simp; refine hK _ ?_; clear hK K)))
  (refine lex_eff (by first | exact wanted_n rfl | exact wanted_g rfl rfl rfl rfl) (by exact rfl) (fun K hK => ?_); go_big_op)
  refine (d_toModule HZ0.out H21.out (fun b hb => by have : _ < w.heap.size := hb; (try simp) <;> omega)).mono ?_
  rintro e w3 ⟨vw3, rfl, hqw3, hb3⟩
  obtain ⟨Aw3_0, nw3_0, cw3_0, Aw3_1, nw3_1, cw3_1, Aw3_2, nw3_2, cw3_2, Aw3_3, nw3_3, cw3_3, rfl⟩ := hqw3.r.form
  have HQw3 := Lib.hid (QModule.mono hqw3 (S' := Iv (w2.heap.size) (w3.heap.size)) (fun b hb => by have := hb; simp [New] at this; exact ⟨by omega, this.2⟩))
  clear hqw3
  have zw3 := hb3.size
  try simp at zw3
  have H26 := Lib.hid (RModule.keep H21.out (w' := w3) (fun p hb => hb3.cell (by have : _ < w.heap.size := hb; (try simp) <;> omega)))
  clear H21
  have H27 := Lib.hid (RWordState.keep H22.out (w' := w3) (fun p hb => hb3.cell (by have : _ < w.heap.size := hb; (try simp) <;> omega)))
  clear H22
  have H28 := Lib.hid (H23.out.below hb3 H23.out.lt)
  clear H23
  have H29 := Lib.hid (H24.out.below hb3 H24.out.lt)
  clear H24
  have HB30 := Lib.hid (HB25.out.trans (hb3.mono (by have := HB25.out.size; (try simp) <;> omega)))
  clear HB25
  have HL31 := Lib.hid (HL20.out.trans (hb3.mono HL20.out.size))
  clear HL20
  refine hK _ _ (Cls.mk' HL31.out) ?_
  clear hK K hb3
  (repeat (first | (refine lex_read (by first | exact wanted_n rfl | exact wanted_g rfl rfl rfl rfl) (by exact rfl) (fun K hK => ?_); go_big_quiet_op; refine hK _ ?_; clear hK K) | (refine lex_skip' (by exact wanted_g rfl rfl rfl rfl) (fun K hK => ?_); go_simp; refine hK _ ?_; clear hK K)))
  (refine lex_eff (by first | exact wanted_n rfl | exact wanted_g rfl rfl rfl rfl) (by exact rfl) (fun K hK => ?_); go_big_op)
  refine (d_toWordState HZ1.out H27.out (fun b hb => by have : _ < w.heap.size := hb; (try simp) <;> omega)).mono ?_
  rintro e w4 ⟨vw4, rfl, hqw4, hb4⟩
  obtain ⟨Aw4_0, nw4_0, cw4_0, Aw4_1, nw4_1, cw4_1, rfl⟩ := hqw4.r.form
  have HQw4 := Lib.hid (QWordState.mono hqw4 (S' := Iv (w3.heap.size) (w4.heap.size)) (fun b hb => by have := hb; simp [New] at this; exact ⟨by omega, this.2⟩))
  clear hqw4
  have zw4 := hb4.size
  try simp at zw4
  have H32 := Lib.hid (RModule.keep H26.out (w' := w4) (fun p hb => hb4.cell (by have : _ < w.heap.size := hb; (try simp) <;> omega)))
  clear H26
  have H33 := Lib.hid (RWordState.keep H27.out (w' := w4) (fun p hb => hb4.cell (by have : _ < w.heap.size := hb; (try simp) <;> omega)))
  clear H27
  have H34 := Lib.hid (H28.out.below hb4 H28.out.lt)
  clear H28
  have H35 := Lib.hid (H29.out.below hb4 H29.out.lt)
  clear H29
  have H36 := Lib.hid (QModule.keep HQw3.out (w' := w4) (fun b hb => hb4.block b (by have := hb; simp only [Iv] at this; (try simp) <;> omega)))
  clear HQw3
  have HB37 := Lib.hid (HB30.out.trans (hb4.mono (by have := HB30.out.size; (try simp) <;> omega)))
  clear HB30
  have HL38 := Lib.hid (HL31.out.trans (hb4.mono HL31.out.size))
  clear HL31
  refine hK _ _ (Cls.mk' HL38.out) ?_
  clear hK K hb4
  (repeat (first | (refine lex_read (by first | exact wanted_n rfl | exact wanted_g rfl rfl rfl rfl) (by exact rfl) (fun K hK => ?_); go_big_quiet_op; refine hK _ ?_; clear hK K) | (refine lex_skip' (by exact wanted_g rfl rfl rfl rfl) (fun K hK => ?_); go_simp; refine hK _ ?_; clear hK K)))
  (refine lex_eff (by first | exact wanted_n rfl | exact wanted_g rfl rfl rfl rfl) (by exact rfl) (fun K hK => ?_); go_big_op)
  refine (s_WordStateOk HZ0.out H36.out.r (fun b hb => by have := hb; simp only [Iv] at this; (try simp) <;> omega) HQw4.out.r (fun b hb => by have := hb; simp only [Iv] at this; (try simp) <;> omega)).mono ?_
  rintro e w5 ⟨rfl, hb5⟩
  obtain ⟨q0, hq0⟩ : ∃ zz, zz = wsB m st := ⟨_, rfl⟩
  rw [← hq0]
  have HS0 := Lib.hid hq0
  clear hq0
  have zw5 := hb5.size
  try simp at zw5
  have H39 := Lib.hid (RModule.keep H32.out (w' := w5) (fun p hb => hb5.cell (by have : _ < w.heap.size := hb; (try simp) <;> omega)))
  clear H32
  have H40 := Lib.hid (RWordState.keep H33.out (w' := w5) (fun p hb => hb5.cell (by have : _ < w.heap.size := hb; (try simp) <;> omega)))
  clear H33
  have H41 := Lib.hid (H34.out.below hb5 H34.out.lt)
  clear H34
  have H42 := Lib.hid (H35.out.below hb5 H35.out.lt)
  clear H35
  have H43 := Lib.hid (QModule.keep H36.out (w' := w5) (fun b hb => hb5.block b (by have := hb; simp only [Iv] at this; (try simp) <;> omega)))
  clear H36
  have H44 := Lib.hid (QWordState.keep HQw4.out (w' := w5) (fun b hb => hb5.block b (by have := hb; simp only [Iv] at this; (try simp) <;> omega)))
  clear HQw4
  have HB45 := Lib.hid (HB37.out.trans (hb5.mono (by have := HB37.out.size; (try simp) <;> omega)))
  clear HB37
  have HL46 := Lib.hid (HL38.out.trans (hb5.mono HL38.out.size))
  clear HL38
  refine hK _ _ (Cls.mk' HL46.out) ?_
  clear hK K hb5
  (repeat (first | (refine lex_read (by first | exact wanted_n rfl | exact wanted_g rfl rfl rfl rfl) (by exact rfl) (fun K hK => ?_); go_big_quiet_op; refine hK _ ?_; clear hK K) | (refine lex_skip' (by exact wanted_g rfl rfl rfl rfl) (fun K hK => ?_); go_simp; refine hK _ ?_; clear hK K)))
  (refine lex_nil ?_)
  clear lexNE cH17_0 cH17_1 cH17_2 cH17_3 cH18_0 cH18_1
  obtain ⟨yH41_0, yH41_1, yH41_2, yH41_3⟩ := blkS4 H41.out
  go_wp2_with fail
  refine (d_toModule HZ0.out H39.out (fun b hb => by have : _ < w.heap.size := hb; (try simp) <;> omega)).mono ?_
  rintro e w6 ⟨vw6, rfl, hqw6, hb6⟩
  obtain ⟨Aw6_0, nw6_0, cw6_0, Aw6_1, nw6_1, cw6_1, Aw6_2, nw6_2, cw6_2, Aw6_3, nw6_3, cw6_3, rfl⟩ := hqw6.r.form
  have HQw6 := Lib.hid (QModule.mono hqw6 (S' := Iv (w5.heap.size) (w6.heap.size)) (fun b hb => by have := hb; simp [New] at this; exact ⟨by omega, this.2⟩))
  clear hqw6
  have zw6 := hb6.size
  try simp at zw6
  have H47 := Lib.hid (RModule.keep H39.out (w' := w6) (fun p hb => hb6.cell (by have : _ < w.heap.size := hb; (try simp) <;> omega)))
  clear H39
  have H48 := Lib.hid (RWordState.keep H40.out (w' := w6) (fun p hb => hb6.cell (by have : _ < w.heap.size := hb; (try simp) <;> omega)))
  clear H40
  have H49 := Lib.hid (H41.out.below hb6 H41.out.lt)
  clear H41
  have H50 := Lib.hid (H42.out.below hb6 H42.out.lt)
  clear H42
  have H51 := Lib.hid (QModule.keep H43.out (w' := w6) (fun b hb => hb6.block b (by have := hb; simp only [Iv] at this; (try simp) <;> omega)))
  clear H43
  have H52 := Lib.hid (QWordState.keep H44.out (w' := w6) (fun b hb => hb6.block b (by have := hb; simp only [Iv] at this; (try simp) <;> omega)))
  clear H44
  have HB53 := Lib.hid (HB45.out.trans (hb6.mono (by have := HB45.out.size; (try simp) <;> omega)))
  clear HB45
  clear hb6
  have H55 := Lib.hid (RModule.keep H47.out (w' := (w6.alloc (.cells #[.slice Aw6_0 nw6_0 cw6_0, .slice Aw6_1 nw6_1 cw6_1, .slice Aw6_2 nw6_2 cw6_2, .slice Aw6_3 nw6_3 cw6_3] 52))) (fun p hb => World.cell?_alloc_lt _ _ p (by have : _ < w.heap.size := hb; (try simp) <;> omega)))
  clear H47
  have H56 := Lib.hid (RWordState.keep H48.out (w' := (w6.alloc (.cells #[.slice Aw6_0 nw6_0 cw6_0, .slice Aw6_1 nw6_1 cw6_1, .slice Aw6_2 nw6_2 cw6_2, .slice Aw6_3 nw6_3 cw6_3] 52))) (fun p hb => World.cell?_alloc_lt _ _ p (by have : _ < w.heap.size := hb; (try simp) <;> omega)))
  clear H48
  have H57 := Lib.hid (H49.out.alloc (.cells #[.slice Aw6_0 nw6_0 cw6_0, .slice Aw6_1 nw6_1 cw6_1, .slice Aw6_2 nw6_2 cw6_2, .slice Aw6_3 nw6_3 cw6_3] 52))
  clear H49
  have H58 := Lib.hid (H50.out.alloc (.cells #[.slice Aw6_0 nw6_0 cw6_0, .slice Aw6_1 nw6_1 cw6_1, .slice Aw6_2 nw6_2 cw6_2, .slice Aw6_3 nw6_3 cw6_3] 52))
  clear H50
  have H59 := Lib.hid (QModule.keep H51.out (w' := (w6.alloc (.cells #[.slice Aw6_0 nw6_0 cw6_0, .slice Aw6_1 nw6_1 cw6_1, .slice Aw6_2 nw6_2 cw6_2, .slice Aw6_3 nw6_3 cw6_3] 52))) (fun b hb => Below.heap_alloc _ _ b (by have := hb; simp only [Iv] at this; (try simp) <;> omega)))
  clear H51
  have H60 := Lib.hid (QWordState.keep H52.out (w' := (w6.alloc (.cells #[.slice Aw6_0 nw6_0 cw6_0, .slice Aw6_1 nw6_1 cw6_1, .slice Aw6_2 nw6_2 cw6_2, .slice Aw6_3 nw6_3 cw6_3] 52))) (fun b hb => Below.heap_alloc _ _ b (by have := hb; simp only [Iv] at this; (try simp) <;> omega)))
  clear H52
  have H61 := Lib.hid (QModule.keep HQw6.out (w' := (w6.alloc (.cells #[.slice Aw6_0 nw6_0 cw6_0, .slice Aw6_1 nw6_1 cw6_1, .slice Aw6_2 nw6_2 cw6_2, .slice Aw6_3 nw6_3 cw6_3] 52))) (fun b hb => Below.heap_alloc _ _ b (by have := hb; simp only [Iv] at this; (try simp) <;> omega)))
  clear HQw6
  have HB62 := Lib.hid (HB53.out.alloc (by have := HB53.out.size; (try simp) <;> omega) (.cells #[.slice Aw6_0 nw6_0 cw6_0, .slice Aw6_1 nw6_1 cw6_1, .slice Aw6_2 nw6_2 cw6_2, .slice Aw6_3 nw6_3 cw6_3] 52))
  clear HB53
  have HX54 := Lib.hid (show Blk (w6.alloc (.cells #[.slice Aw6_0 nw6_0 cw6_0, .slice Aw6_1 nw6_1 cw6_1, .slice Aw6_2 nw6_2 cw6_2, .slice Aw6_3 nw6_3 cw6_3] 52)) (w6.heap.size) 52 #[.slice Aw6_0 nw6_0 cw6_0, .slice Aw6_1 nw6_1 cw6_1, .slice Aw6_2 nw6_2 cw6_2, .slice Aw6_3 nw6_3 cw6_3] from by have h := Blk.new (w6) 52 #[.slice Aw6_0 nw6_0 cw6_0, .slice Aw6_1 nw6_1 cw6_1, .slice Aw6_2 nw6_2 cw6_2, .slice Aw6_3 nw6_3 cw6_3]; simpa using h)
  clear yH41_0 yH41_1 yH41_2 yH41_3
  obtain ⟨yH58_0, yH58_1⟩ := blkS2 H58.out
  go_wp2_with fail
  refine (d_toWordState HZ1.out H56.out (fun b hb => by have : _ < w.heap.size := hb; (try simp) <;> omega)).mono ?_
  rintro e w7 ⟨vw7, rfl, hqw7, hb7⟩
  obtain ⟨Aw7_0, nw7_0, cw7_0, Aw7_1, nw7_1, cw7_1, rfl⟩ := hqw7.r.form
  have HQw7 := Lib.hid (QWordState.mono hqw7 (S' := Iv (w6.heap.size + 1) (w7.heap.size)) (fun b hb => by have := hb; simp [New] at this; exact ⟨by omega, this.2⟩))
  clear hqw7
  have zw7 := hb7.size
  try simp at zw7
  have H63 := Lib.hid (RModule.keep H55.out (w' := w7) (fun p hb => hb7.cell (by have : _ < w.heap.size := hb; (try simp) <;> omega)))
  clear H55
  have H64 := Lib.hid (RWordState.keep H56.out (w' := w7) (fun p hb => hb7.cell (by have : _ < w.heap.size := hb; (try simp) <;> omega)))
  clear H56
  have H65 := Lib.hid (H57.out.below hb7 H57.out.lt)
  clear H57
  have H66 := Lib.hid (H58.out.below hb7 H58.out.lt)
  clear H58
  have H67 := Lib.hid (QModule.keep H59.out (w' := w7) (fun b hb => hb7.block b (by have := hb; simp only [Iv] at this; (try simp) <;> omega)))
  clear H59
  have H68 := Lib.hid (QWordState.keep H60.out (w' := w7) (fun b hb => hb7.block b (by have := hb; simp only [Iv] at this; (try simp) <;> omega)))
  clear H60
  have H69 := Lib.hid (QModule.keep H61.out (w' := w7) (fun b hb => hb7.block b (by have := hb; simp only [Iv] at this; (try simp) <;> omega)))
  clear H61
  have H70 := Lib.hid (HX54.out.below hb7 HX54.out.lt)
  clear HX54
  have HB71 := Lib.hid (HB62.out.trans (hb7.mono (by have := HB62.out.size; (try simp) <;> omega)))
  clear HB62
  clear hb7
  have H73 := Lib.hid (RModule.keep H63.out (w' := (w7.alloc (.cells #[.slice Aw7_0 nw7_0 cw7_0, .slice Aw7_1 nw7_1 cw7_1] 69))) (fun p hb => World.cell?_alloc_lt _ _ p (by have : _ < w.heap.size := hb; (try simp) <;> omega)))
  clear H63
  have H74 := Lib.hid (RWordState.keep H64.out (w' := (w7.alloc (.cells #[.slice Aw7_0 nw7_0 cw7_0, .slice Aw7_1 nw7_1 cw7_1] 69))) (fun p hb => World.cell?_alloc_lt _ _ p (by have : _ < w.heap.size := hb; (try simp) <;> omega)))
  clear H64
  have H75 := Lib.hid (H65.out.alloc (.cells #[.slice Aw7_0 nw7_0 cw7_0, .slice Aw7_1 nw7_1 cw7_1] 69))
  clear H65
  have H76 := Lib.hid (H66.out.alloc (.cells #[.slice Aw7_0 nw7_0 cw7_0, .slice Aw7_1 nw7_1 cw7_1] 69))
  clear H66
  have H77 := Lib.hid (QModule.keep H67.out (w' := (w7.alloc (.cells #[.slice Aw7_0 nw7_0 cw7_0, .slice Aw7_1 nw7_1 cw7_1] 69))) (fun b hb => Below.heap_alloc _ _ b (by have := hb; simp only [Iv] at this; (try simp) <;> omega)))
  clear H67
  have H78 := Lib.hid (QWordState.keep H68.out (w' := (w7.alloc (.cells #[.slice Aw7_0 nw7_0 cw7_0, .slice Aw7_1 nw7_1 cw7_1] 69))) (fun b hb => Below.heap_alloc _ _ b (by have := hb; simp only [Iv] at this; (try simp) <;> omega)))
  clear H68
  have H79 := Lib.hid (QModule.keep H69.out (w' := (w7.alloc (.cells #[.slice Aw7_0 nw7_0 cw7_0, .slice Aw7_1 nw7_1 cw7_1] 69))) (fun b hb => Below.heap_alloc _ _ b (by have := hb; simp only [Iv] at this; (try simp) <;> omega)))
  clear H69
  have H80 := Lib.hid (H70.out.alloc (.cells #[.slice Aw7_0 nw7_0 cw7_0, .slice Aw7_1 nw7_1 cw7_1] 69))
  clear H70
  have H81 := Lib.hid (QWordState.keep HQw7.out (w' := (w7.alloc (.cells #[.slice Aw7_0 nw7_0 cw7_0, .slice Aw7_1 nw7_1 cw7_1] 69))) (fun b hb => Below.heap_alloc _ _ b (by have := hb; simp only [Iv] at this; (try simp) <;> omega)))
  clear HQw7
  have HB82 := Lib.hid (HB71.out.alloc (by have := HB71.out.size; (try simp) <;> omega) (.cells #[.slice Aw7_0 nw7_0 cw7_0, .slice Aw7_1 nw7_1 cw7_1] 69))
  clear HB71
  have HX72 := Lib.hid (show Blk (w7.alloc (.cells #[.slice Aw7_0 nw7_0 cw7_0, .slice Aw7_1 nw7_1 cw7_1] 69)) (w7.heap.size) 69 #[.slice Aw7_0 nw7_0 cw7_0, .slice Aw7_1 nw7_1 cw7_1] from by have h := Blk.new (w7) 69 #[.slice Aw7_0 nw7_0 cw7_0, .slice Aw7_1 nw7_1 cw7_1]; simpa using h)
  clear yH58_0 yH58_1
  obtain ⟨yH80_0, yH80_1, yH80_2, yH80_3⟩ := blkS4 H80.out
  obtain ⟨yHX72_0, yHX72_1⟩ := blkS2 HX72.out
  go_wp2_with fail
  refine (i_WordStateOk HZ0.out H79.out.r (fun b hb => by have := hb; simp only [Iv] at this; (try simp) <;> omega) H81.out.r (fun b hb => by have := hb; simp only [Iv] at this; (try simp) <;> omega)).mono ?_
  rintro e w8 ⟨rfl, hb8⟩
  rw [← HS0.out]
  have zw8 := hb8.size
  try simp at zw8
  have H83 := Lib.hid (RModule.keep H73.out (w' := w8) (fun p hb => hb8.cell (by have : _ < w.heap.size := hb; (try simp) <;> omega)))
  clear H73
  have H84 := Lib.hid (RWordState.keep H74.out (w' := w8) (fun p hb => hb8.cell (by have : _ < w.heap.size := hb; (try simp) <;> omega)))
  clear H74
  have H85 := Lib.hid (H75.out.below hb8 H75.out.lt)
  clear H75
  have H86 := Lib.hid (H76.out.below hb8 H76.out.lt)
  clear H76
  have H87 := Lib.hid (QModule.keep H77.out (w' := w8) (fun b hb => hb8.block b (by have := hb; simp only [Iv] at this; (try simp) <;> omega)))
  clear H77
  have H88 := Lib.hid (QWordState.keep H78.out (w' := w8) (fun b hb => hb8.block b (by have := hb; simp only [Iv] at this; (try simp) <;> omega)))
  clear H78
  have H89 := Lib.hid (QModule.keep H79.out (w' := w8) (fun b hb => hb8.block b (by have := hb; simp only [Iv] at this; (try simp) <;> omega)))
  clear H79
  have H90 := Lib.hid (H80.out.below hb8 H80.out.lt)
  clear H80
  have H91 := Lib.hid (QWordState.keep H81.out (w' := w8) (fun b hb => hb8.block b (by have := hb; simp only [Iv] at this; (try simp) <;> omega)))
  clear H81
  have H92 := Lib.hid (HX72.out.below hb8 HX72.out.lt)
  clear HX72
  have HB93 := Lib.hid (HB82.out.trans (hb8.mono (by have := HB82.out.size; (try simp) <;> omega)))
  clear HB82
  clear hb8
  clear yH80_0 yH80_1 yH80_2 yH80_3 yHX72_0 yHX72_1
  go_wp2_with fail
  refine wp_region_lexC (by kernel_rfl) (by kernel_rfl) (fun x => Below w8.heap.size w8 x) ((Below.refl _ _).drew) (fun lexNE => ?_)
  obtain ⟨cH90_0, cH90_1, cH90_2, cH90_3⟩ := bwS4 (B := w8.heap.size) H90.out H90.out.lt
  obtain ⟨cH85_0, cH85_1, cH85_2, cH85_3⟩ := bwS4 (B := w8.heap.size) H85.out H85.out.lt
  have HL94 := Lib.hid ((Below.refl w8.heap.size w8).drew)
  have H95 := Lib.hid (RModule.keep H83.out (w' := w8.drew) (fun p hb => rfl))
  clear H83
  have H96 := Lib.hid (RWordState.keep H84.out (w' := w8.drew) (fun p hb => rfl))
  clear H84
  have H97 := Lib.hid (H85.out.drew)
  clear H85
  have H98 := Lib.hid (H86.out.drew)
  clear H86
  have H99 := Lib.hid (QModule.keep H87.out (w' := w8.drew) (fun b hb => rfl))
  clear H87
  have H100 := Lib.hid (QWordState.keep H88.out (w' := w8.drew) (fun b hb => rfl))
  clear H88
  have H101 := Lib.hid (QModule.keep H89.out (w' := w8.drew) (fun b hb => rfl))
  clear H89
  have H102 := Lib.hid (H90.out.drew)
  clear H90
  have H103 := Lib.hid (QWordState.keep H91.out (w' := w8.drew) (fun b hb => rfl))
  clear H91
  have H104 := Lib.hid (H92.out.drew)
  clear H92
  have HB105 := Lib.hid (HB93.out.drew)
  clear HB93
  (repeat (first | (refine lex_read (by first | exact wanted_n rfl | exact wanted_g rfl rfl rfl rfl) (by exact rfl) (fun K hK => ?_); go_big_quiet_op; refine hK _ ?_; clear hK K) | (refine lex_skip' (by exact wanted_g rfl rfl rfl rfl) (fun K hK => ?_); go_simp; refine hK _ ?_; clear hK K)))
  (refine lex_eff (by first | exact wanted_n rfl | exact wanted_g rfl rfl rfl rfl) (by exact rfl) (fun K hK => ?_); go_big_op)
  refine (d_toModule HZ0.out H95.out (fun b hb => by have : _ < w.heap.size := hb; (try simp) <;> omega)).mono ?_
  rintro e w9 ⟨vw9, rfl, hqw9, hb9⟩
  obtain ⟨Aw9_0, nw9_0, cw9_0, Aw9_1, nw9_1, cw9_1, Aw9_2, nw9_2, cw9_2, Aw9_3, nw9_3, cw9_3, rfl⟩ := hqw9.r.form
  have HQw9 := Lib.hid (QModule.mono hqw9 (S' := Iv (w8.heap.size) (w9.heap.size)) (fun b hb => by have := hb; simp [New] at this; exact ⟨by omega, this.2⟩))
  clear hqw9
  have zw9 := hb9.size
  try simp at zw9
  have H106 := Lib.hid (RModule.keep H95.out (w' := w9) (fun p hb => hb9.cell (by have : _ < w.heap.size := hb; (try simp) <;> omega)))
  clear H95
  have H107 := Lib.hid (RWordState.keep H96.out (w' := w9) (fun p hb => hb9.cell (by have : _ < w.heap.size := hb; (try simp) <;> omega)))
  clear H96
  have H108 := Lib.hid (H97.out.below hb9 H97.out.lt)
  clear H97
  have H109 := Lib.hid (H98.out.below hb9 H98.out.lt)
  clear H98
  have H110 := Lib.hid (QModule.keep H99.out (w' := w9) (fun b hb => hb9.block b (by have := hb; simp only [Iv] at this; (try simp) <;> omega)))
  clear H99
  have H111 := Lib.hid (QWordState.keep H100.out (w' := w9) (fun b hb => hb9.block b (by have := hb; simp only [Iv] at this; (try simp) <;> omega)))
  clear H100
  have H112 := Lib.hid (QModule.keep H101.out (w' := w9) (fun b hb => hb9.block b (by have := hb; simp only [Iv] at this; (try simp) <;> omega)))
  clear H101
  have H113 := Lib.hid (H102.out.below hb9 H102.out.lt)
  clear H102
  have H114 := Lib.hid (QWordState.keep H103.out (w' := w9) (fun b hb => hb9.block b (by have := hb; simp only [Iv] at this; (try simp) <;> omega)))
  clear H103
  have H115 := Lib.hid (H104.out.below hb9 H104.out.lt)
  clear H104
  have HB116 := Lib.hid (HB105.out.trans (hb9.mono (by have := HB105.out.size; (try simp) <;> omega)))
  clear HB105
  have HL117 := Lib.hid (HL94.out.trans (hb9.mono HL94.out.size))
  clear HL94
  refine hK _ _ (Cls.mk' HL117.out) ?_
  clear hK K hb9
  (repeat (first | (refine lex_read (by first | exact wanted_n rfl | exact wanted_g rfl rfl rfl rfl) (by exact rfl) (fun K hK => ?_); go_big_quiet_op; refine hK _ ?_; clear hK K) | (refine lex_skip' (by exact wanted_g rfl rfl rfl rfl) (fun K hK => ?_); go_simp; refine hK _ ?_; clear hK K)))
  (refine lex_eff (by first | exact wanted_n rfl | exact wanted_g rfl rfl rfl rfl) (by exact rfl) (fun K hK => ?_); go_big_op)
  refine (d_eqModule HZ0.out H112.out.r HQw9.out.r (fun b hb => by have := hb; simp only [Iv] at this; (try simp) <;> omega) (fun b hb => by have := hb; simp only [Iv] at this; (try simp) <;> omega)).mono ?_
  rintro e w10 ⟨rfl, hb10⟩
  have zw10 := hb10.size
  try simp at zw10
  have H118 := Lib.hid (RModule.keep H106.out (w' := w10) (fun p hb => hb10.cell (by have : _ < w.heap.size := hb; (try simp) <;> omega)))
  clear H106
  have H119 := Lib.hid (RWordState.keep H107.out (w' := w10) (fun p hb => hb10.cell (by have : _ < w.heap.size := hb; (try simp) <;> omega)))
  clear H107
  have H120 := Lib.hid (H108.out.below hb10 H108.out.lt)
  clear H108
  have H121 := Lib.hid (H109.out.below hb10 H109.out.lt)
  clear H109
  have H122 := Lib.hid (QModule.keep H110.out (w' := w10) (fun b hb => hb10.block b (by have := hb; simp only [Iv] at this; (try simp) <;> omega)))
  clear H110
  have H123 := Lib.hid (QWordState.keep H111.out (w' := w10) (fun b hb => hb10.block b (by have := hb; simp only [Iv] at this; (try simp) <;> omega)))
  clear H111
  have H124 := Lib.hid (QModule.keep H112.out (w' := w10) (fun b hb => hb10.block b (by have := hb; simp only [Iv] at this; (try simp) <;> omega)))
  clear H112
  have H125 := Lib.hid (H113.out.below hb10 H113.out.lt)
  clear H113
  have H126 := Lib.hid (QWordState.keep H114.out (w' := w10) (fun b hb => hb10.block b (by have := hb; simp only [Iv] at this; (try simp) <;> omega)))
  clear H114
  have H127 := Lib.hid (H115.out.below hb10 H115.out.lt)
  clear H115
  have H128 := Lib.hid (QModule.keep HQw9.out (w' := w10) (fun b hb => hb10.block b (by have := hb; simp only [Iv] at this; (try simp) <;> omega)))
  clear HQw9
  have HB129 := Lib.hid (HB116.out.trans (hb10.mono (by have := HB116.out.size; (try simp) <;> omega)))
  clear HB116
  have HL130 := Lib.hid (HL117.out.trans (hb10.mono HL117.out.size))
  clear HL117
  refine hK _ _ (Cls.mk' HL130.out) ?_
  clear hK K hb10
  (repeat (first | (refine lex_read (by first | exact wanted_n rfl | exact wanted_g rfl rfl rfl rfl) (by exact rfl) (fun K hK => ?_); go_big_quiet_op; refine hK _ ?_; clear hK K) | (refine lex_skip' (by exact wanted_g rfl rfl rfl rfl) (fun K hK => ?_); go_simp; refine hK _ ?_; clear hK K)))
  (refine lex_nil ?_)
  clear lexNE cH90_0 cH90_1 cH90_2 cH90_3 cH85_0 cH85_1 cH85_2 cH85_3
  go_wp2_with fail
  refine wp_region_lexC (by kernel_rfl) (by kernel_rfl) (fun x => Below w10.heap.size w10 x) ((Below.refl _ _).drew) (fun lexNE => ?_)
  obtain ⟨cH127_0, cH127_1⟩ := bwS2 (B := w10.heap.size) H127.out H127.out.lt
  obtain ⟨cH121_0, cH121_1⟩ := bwS2 (B := w10.heap.size) H121.out H121.out.lt
  have HL131 := Lib.hid ((Below.refl w10.heap.size w10).drew)
  have H132 := Lib.hid (RModule.keep H118.out (w' := w10.drew) (fun p hb => rfl))
  clear H118
  have H133 := Lib.hid (RWordState.keep H119.out (w' := w10.drew) (fun p hb => rfl))
  clear H119
  have H134 := Lib.hid (H120.out.drew)
  clear H120
  have H135 := Lib.hid (H121.out.drew)
  clear H121
  have H136 := Lib.hid (QModule.keep H122.out (w' := w10.drew) (fun b hb => rfl))
  clear H122
  have H137 := Lib.hid (QWordState.keep H123.out (w' := w10.drew) (fun b hb => rfl))
  clear H123
  have H138 := Lib.hid (QModule.keep H124.out (w' := w10.drew) (fun b hb => rfl))
  clear H124
  have H139 := Lib.hid (H125.out.drew)
  clear H125
  have H140 := Lib.hid (QWordState.keep H126.out (w' := w10.drew) (fun b hb => rfl))
  clear H126
  have H141 := Lib.hid (H127.out.drew)
  clear H127
  have H142 := Lib.hid (QModule.keep H128.out (w' := w10.drew) (fun b hb => rfl))
  clear H128
  have HB143 := Lib.hid (HB129.out.drew)
  clear HB129
  (repeat (first | (refine lex_read (by first | exact wanted_n rfl | exact wanted_g rfl rfl rfl rfl) (by exact rfl) (fun K hK => ?_); go_big_quiet_op; refine hK _ ?_; clear hK K) | (refine lex_skip' (by exact wanted_g rfl rfl rfl rfl) (fun K hK => ?_); go_simp; refine hK _ ?_; clear hK K)))
  (refine lex_eff (by first | exact wanted_n rfl | exact wanted_g rfl rfl rfl rfl) (by exact rfl) (fun K hK => ?_); go_big_op)
  refine (d_toWordState HZ1.out H133.out (fun b hb => by have : _ < w.heap.size := hb; (try simp) <;> omega)).mono ?_
  rintro e w11 ⟨vw11, rfl, hqw11, hb11⟩
  obtain ⟨Aw11_0, nw11_0, cw11_0, Aw11_1, nw11_1, cw11_1, rfl⟩ := hqw11.r.form
  have HQw11 := Lib.hid (QWordState.mono hqw11 (S' := Iv (w10.heap.size) (w11.heap.size)) (fun b hb => by have := hb; simp [New] at this; exact ⟨by omega, this.2⟩))
  clear hqw11
  have zw11 := hb11.size
  try simp at zw11
  have H144 := Lib.hid (RModule.keep H132.out (w' := w11) (fun p hb => hb11.cell (by have : _ < w.heap.size := hb; (try simp) <;> omega)))
  clear H132
  have H145 := Lib.hid (RWordState.keep H133.out (w' := w11) (fun p hb => hb11.cell (by have : _ < w.heap.size := hb; (try simp) <;> omega)))
  clear H133
  have H146 := Lib.hid (H134.out.below hb11 H134.out.lt)
  clear H134
  have H147 := Lib.hid (H135.out.below hb11 H135.out.lt)
  clear H135
  have H148 := Lib.hid (QModule.keep H136.out (w' := w11) (fun b hb => hb11.block b (by have := hb; simp only [Iv] at this; (try simp) <;> omega)))
  clear H136
  have H149 := Lib.hid (QWordState.keep H137.out (w' := w11) (fun b hb => hb11.block b (by have := hb; simp only [Iv] at this; (try simp) <;> omega)))
  clear H137
  have H150 := Lib.hid (QModule.keep H138.out (w' := w11) (fun b hb => hb11.block b (by have := hb; simp only [Iv] at this; (try simp) <;> omega)))
  clear H138
  have H151 := Lib.hid (H139.out.below hb11 H139.out.lt)
  clear H139
  have H152 := Lib.hid (QWordState.keep H140.out (w' := w11) (fun b hb => hb11.block b (by have := hb; simp only [Iv] at this; (try simp) <;> omega)))
  clear H140
  have H153 := Lib.hid (H141.out.below hb11 H141.out.lt)
  clear H141
  have H154 := Lib.hid (QModule.keep H142.out (w' := w11) (fun b hb => hb11.block b (by have := hb; simp only [Iv] at this; (try simp) <;> omega)))
  clear H142
  have HB155 := Lib.hid (HB143.out.trans (hb11.mono (by have := HB143.out.size; (try simp) <;> omega)))
  clear HB143
  have HL156 := Lib.hid (HL131.out.trans (hb11.mono HL131.out.size))
  clear HL131
  refine hK _ _ (Cls.mk' HL156.out) ?_
  clear hK K hb11
  (repeat (first | (refine lex_read (by first | exact wanted_n rfl | exact wanted_g rfl rfl rfl rfl) (by exact rfl) (fun K hK => ?_); go_big_quiet_op; refine hK _ ?_; clear hK K) | (refine lex_skip' (by exact wanted_g rfl rfl rfl rfl) (fun K hK => ?_); go_simp; refine hK _ ?_; clear hK K)))
  (refine lex_eff (by first | exact wanted_n rfl | exact wanted_g rfl rfl rfl rfl) (by exact rfl) (fun K hK => ?_); go_big_op)
  refine (d_eqWordState HZ1.out H152.out.r HQw11.out.r (fun b hb => by have := hb; simp only [Iv] at this; (try simp) <;> omega) (fun b hb => by have := hb; simp only [Iv] at this; (try simp) <;> omega)).mono ?_
  rintro e w12 ⟨rfl, hb12⟩
  have zw12 := hb12.size
  try simp at zw12
  have H157 := Lib.hid (RModule.keep H144.out (w' := w12) (fun p hb => hb12.cell (by have : _ < w.heap.size := hb; (try simp) <;> omega)))
  clear H144
  have H158 := Lib.hid (RWordState.keep H145.out (w' := w12) (fun p hb => hb12.cell (by have : _ < w.heap.size := hb; (try simp) <;> omega)))
  clear H145
  have H159 := Lib.hid (H146.out.below hb12 H146.out.lt)
  clear H146
  have H160 := Lib.hid (H147.out.below hb12 H147.out.lt)
  clear H147
  have H161 := Lib.hid (QModule.keep H148.out (w' := w12) (fun b hb => hb12.block b (by have := hb; simp only [Iv] at this; (try simp) <;> omega)))
  clear H148
  have H162 := Lib.hid (QWordState.keep H149.out (w' := w12) (fun b hb => hb12.block b (by have := hb; simp only [Iv] at this; (try simp) <;> omega)))
  clear H149
  have H163 := Lib.hid (QModule.keep H150.out (w' := w12) (fun b hb => hb12.block b (by have := hb; simp only [Iv] at this; (try simp) <;> omega)))
  clear H150
  have H164 := Lib.hid (H151.out.below hb12 H151.out.lt)
  clear H151
  have H165 := Lib.hid (QWordState.keep H152.out (w' := w12) (fun b hb => hb12.block b (by have := hb; simp only [Iv] at this; (try simp) <;> omega)))
  clear H152
  have H166 := Lib.hid (H153.out.below hb12 H153.out.lt)
  clear H153
  have H167 := Lib.hid (QModule.keep H154.out (w' := w12) (fun b hb => hb12.block b (by have := hb; simp only [Iv] at this; (try simp) <;> omega)))
  clear H154
  have H168 := Lib.hid (QWordState.keep HQw11.out (w' := w12) (fun b hb => hb12.block b (by have := hb; simp only [Iv] at this; (try simp) <;> omega)))
  clear HQw11
  have HB169 := Lib.hid (HB155.out.trans (hb12.mono (by have := HB155.out.size; (try simp) <;> omega)))
  clear HB155
  have HL170 := Lib.hid (HL156.out.trans (hb12.mono HL156.out.size))
  clear HL156
  refine hK _ _ (Cls.mk' HL170.out) ?_
  clear hK K hb12
  (repeat (first | (refine lex_read (by first | exact wanted_n rfl | exact wanted_g rfl rfl rfl rfl) (by exact rfl) (fun K hK => ?_); go_big_quiet_op; refine hK _ ?_; clear hK K) | (refine lex_skip' (by exact wanted_g rfl rfl rfl rfl) (fun K hK => ?_); go_simp; refine hK _ ?_; clear hK K)))
  (refine lex_nil ?_)
  clear lexNE cH127_0 cH127_1 cH121_0 cH121_1
  go_wp2_with fail
  go_ret
  exact ⟨rfl, HB169.out⟩
set_option maxRecDepth 100000 in
theorem lifted_FnExactWordStateOk (os : Os) (started : os.Started) (H : Type) (enc : TypeId × Value → H) :
    ReturnsInHanded {} Try.checked os 10 .any (Rows.fnExactWordStateOkSpec.pre6 enc Try.prog Try.f10 Rows.fnExactWordStateOkRow.domain false) (Rows.fnExactWordStateOkSpec.post enc Try.prog Try.f10 false true false false) := by
  refine lift (F := 10) (fn := Try.f10) (s := Rows.fnExactWordStateOkSpec) (conds := Rows.fnExactWordStateOkRow.domain) (by kernel_rfl) Try.func10 (by kernel_rfl) rfl (by kernel_rfl) ?_ ?_ os started H enc
    (ChangeSpec.witness6 (enc := enc) (C := Try.checked) false ⟨#[], #[.agg #[.slice none 0 0, .slice none 0 0, .slice none 0 0, .slice none 0 0], .agg #[.slice none 0 0, .slice none 0 0]], []⟩ 8 (by kernel_rfl) (by kernel_rfl) (by kernel_rfl) (by kernel_rfl))
  · intro H ds hl
    rw [Try.params10] at hl
    match ds, hl with
    | [d0, d1], _ => exact ⟨rfl, rfl, rfl⟩
  · intro W base args H enc ds p hval hA hlt
    rw [Try.params10] at hA hval
    obtain ⟨v0, vs0, e0, es0, p0, q0, hargs, rfl, rfl, h0, r0⟩ := trodAll_cons hA
    obtain ⟨v1, vs1, e1, es1, p1, q1, rfl, rfl, rfl, h1, r1⟩ := trodAll_cons r0
    obtain ⟨rfl, rfl, rfl⟩ := trodAll_nil r1
    obtain rfl : args = #[v0, v1] := by cases args; simp_all
    obtain ⟨x0, w0⟩ := op_Module (hval 0 42 v0 rfl rfl) h0 (fun x hx => hlt x (by simp [hx]))
    obtain ⟨x1, w1⟩ := op_WordState (hval 1 66 v1 rfl rfl) h1 (fun x hx => hlt x (by simp [hx]))
    exact walk_FnExactWordStateOk v0 x0 v1 x1 W w0 w1
theorem facts_FnExactWordStateOk : joinedFacts Try.pinned.checked.prog 10 Try.f10 Rows.fnExactWordStateOkSpec Rows.fnExactWordStateOkRow = true :=
  facts_of (P := Try.prog) mayE liftE makeE rfl rfl (by kernel_rfl) (by kernel_rfl) (by kernel_rfl) (by kernel_rfl) (by kernel_rfl) (by kernel_rfl) (by kernel_rfl) (by kernel_rfl) (by kernel_rfl) (by kernel_rfl) (by kernel_rfl) (by kernel_rfl) (by kernel_rfl) rfl rfl (by kernel_rfl) (by kernel_rfl) (by kernel_rfl) (by kernel_rfl) (by kernel_rfl) (by kernel_rfl) (by kernel_rfl) (by kernel_rfl) (by kernel_rfl) (by kernel_rfl) (by kernel_rfl) rfl rfl (by kernel_rfl) (by kernel_rfl) (by kernel_rfl)
theorem over_FnExactWordStateOk : Rows.fnExactWordStateOkRow.holds Try.pinned (OpenSpec.ofChange Rows.fnExactWordStateOkSpec) :=
  OpenClaim.holds_of_wide 10 Try.f10 rfl rfl rfl rfl rfl rfl rfl ⟨rfl, rfl, rfl, rfl, rfl⟩ rfl rfl rfl rfl rfl (by kernel_rfl) Try.func10 facts_FnExactWordStateOk
    (of_decide_eq_true (by kernel_rfl)) (by unfold Func.isWrapper; first | (rw [if_pos (by decide +kernel)]; kernel_rfl) | (rw [if_neg (by decide +kernel)]; exact ⟨rfl, rfl⟩))
    (fun os started H enc _ => lifted_FnExactWordStateOk os started H enc)
theorem FnExactWordStateOk_holds : Rows.FnExactWordStateOkSaid := over_FnExactWordStateOk
end Go.Proofs.Ytjiijjihkgipkaa
