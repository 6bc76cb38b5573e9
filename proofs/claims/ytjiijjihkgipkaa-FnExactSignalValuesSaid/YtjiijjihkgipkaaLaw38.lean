/- Law of the signal values: for every module, state and input the program's SignalValues returns the reference's values, in memory of its own. Conditions: none. -/
import Derived.Test.YtjiijjihkgipkaaFrame9
import Derived.Test.YtjiijjihkgipkaaSigD
import Derived.Test.YtjiijjihkgipkaaGa
import Derived.Outline
namespace Go.Proofs.Ytjiijjihkgipkaa
open Go.ChangeShapes Go.WideShapes Go.ChangeAt Go.RowKit

set_option maxRecDepth 100000 in
set_option maxHeartbeats 8000000 in
theorem walk_FnExactSignalValues (v0 : Value) (m : TModule) (v1 : Value) (st : TWordState) (v2 : Value) (ins : List TInt) (w : World) (h0 : RModule (w) (fun b => b < w.heap.size) (v0) m ∧ WfModule m) (h1 : RWordState (w) (fun b => b < w.heap.size) (v1) st ∧ WfWordState st) (h2 : Rep (w) (fun b => b < w.heap.size) (v2) (fIntS ins) ∧ Wf (fIntS ins)) :
    Calls Try.prog 12 #[v0, v1, v2] w fun e w' => e = .returned (.bool true) ∧ Below w.heap.size w w' := by
  obtain ⟨h0, wf0⟩ := h0
  have WF0 := Lib.hid wf0
  clear wf0
  obtain ⟨h1, wf1⟩ := h1
  have WF1 := Lib.hid wf1
  clear wf1
  obtain ⟨h2, wf2⟩ := h2
  have WF2 := Lib.hid wf2
  clear wf2
  obtain ⟨Aa0_0, na0_0, ca0_0, Aa0_1, na0_1, ca0_1, Aa0_2, na0_2, ca0_2, Aa0_3, na0_3, ca0_3, rfl⟩ := h0.form
  obtain ⟨Aa1_0, na1_0, ca1_0, Aa1_1, na1_1, ca1_1, rfl⟩ := h1.form
  obtain ⟨Aa2, na2, ca2, rfl⟩ := slv_of h2
  have HB0 := Lib.hid (Below.refl w.heap.size w)
  have HR0 := Lib.hid h0
  clear h0
  have HR1 := Lib.hid h1
  clear h1
  have HR2 := Lib.hid h2
  clear h2
  by_cases hlen2 : na2 ≤ 1048576
  rotate_left
  · go_enter Try.func12, Try.ntmps12
    go_wp2_with fail
    go_ret
    exact ⟨rfl, (by repeat (first | with_reducible exact Below.refl _ _ | with_reducible assumption | with_reducible refine below_drewN ?_ _ | with_reducible refine Below.drew ?_ | ((with_reducible refine Below.alloc ?_ ?_ _); rotate_left; (((try simp) <;> (try omega)) <;> done)) | ((with_reducible refine Below.setCell ?_ ?_ _); rotate_left; (((try simp) <;> (try omega)) <;> done)) | ((with_reducible refine Below.trans ?_ (Below.mono (by with_reducible assumption) ?_)); rotate_left; (((try simp) <;> (try omega)) <;> done))))⟩
  have HZ2 := Lib.hid (show szL sInt ins ≤ 1048576 by have h1 := HR2.out.len; rw [List.length_map] at h1; unfold szL; rw [nuL_zero sInt (fun _ => rfl)]; omega)
  go_enter Try.func12, Try.ntmps12
  have H2 := Lib.hid (RModule.keep HR0.out (w' := (w.alloc (.cells #[.slice Aa0_0 na0_0 ca0_0, .slice Aa0_1 na0_1 ca0_1, .slice Aa0_2 na0_2 ca0_2, .slice Aa0_3 na0_3 ca0_3] 42))) (fun p hb => World.cell?_alloc_lt _ _ p (by have : _ < w.heap.size := hb; (try simp) <;> omega)))
  clear HR0
  have H3 := Lib.hid (RWordState.keep HR1.out (w' := (w.alloc (.cells #[.slice Aa0_0 na0_0 ca0_0, .slice Aa0_1 na0_1 ca0_1, .slice Aa0_2 na0_2 ca0_2, .slice Aa0_3 na0_3 ca0_3] 42))) (fun p hb => World.cell?_alloc_lt _ _ p (by have : _ < w.heap.size := hb; (try simp) <;> omega)))
  clear HR1
  have H4 := Lib.hid (Rep.keep HR2.out (w' := (w.alloc (.cells #[.slice Aa0_0 na0_0 ca0_0, .slice Aa0_1 na0_1 ca0_1, .slice Aa0_2 na0_2 ca0_2, .slice Aa0_3 na0_3 ca0_3] 42))) (fun p hb => World.cell?_alloc_lt _ _ p (by have : _ < w.heap.size := hb; (try simp) <;> omega)))
  clear HR2
  have HB5 := Lib.hid (HB0.out.alloc (by have := HB0.out.size; (try simp) <;> omega) (.cells #[.slice Aa0_0 na0_0 ca0_0, .slice Aa0_1 na0_1 ca0_1, .slice Aa0_2 na0_2 ca0_2, .slice Aa0_3 na0_3 ca0_3] 42))
  clear HB0
  have HX1 := Lib.hid (show Blk (w.alloc (.cells #[.slice Aa0_0 na0_0 ca0_0, .slice Aa0_1 na0_1 ca0_1, .slice Aa0_2 na0_2 ca0_2, .slice Aa0_3 na0_3 ca0_3] 42)) (w.heap.size) 42 #[.slice Aa0_0 na0_0 ca0_0, .slice Aa0_1 na0_1 ca0_1, .slice Aa0_2 na0_2 ca0_2, .slice Aa0_3 na0_3 ca0_3] from by have h := Blk.new (w) 42 #[.slice Aa0_0 na0_0 ca0_0, .slice Aa0_1 na0_1 ca0_1, .slice Aa0_2 na0_2 ca0_2, .slice Aa0_3 na0_3 ca0_3]; simpa using h)
  have H7 := Lib.hid (RModule.keep H2.out (w' := ((w.alloc (.cells #[.slice Aa0_0 na0_0 ca0_0, .slice Aa0_1 na0_1 ca0_1, .slice Aa0_2 na0_2 ca0_2, .slice Aa0_3 na0_3 ca0_3] 42)).alloc (.cells #[.slice Aa1_0 na1_0 ca1_0, .slice Aa1_1 na1_1 ca1_1] 66))) (fun p hb => World.cell?_alloc_lt _ _ p (by have : _ < w.heap.size := hb; (try simp) <;> omega)))
  clear H2
  have H8 := Lib.hid (RWordState.keep H3.out (w' := ((w.alloc (.cells #[.slice Aa0_0 na0_0 ca0_0, .slice Aa0_1 na0_1 ca0_1, .slice Aa0_2 na0_2 ca0_2, .slice Aa0_3 na0_3 ca0_3] 42)).alloc (.cells #[.slice Aa1_0 na1_0 ca1_0, .slice Aa1_1 na1_1 ca1_1] 66))) (fun p hb => World.cell?_alloc_lt _ _ p (by have : _ < w.heap.size := hb; (try simp) <;> omega)))
  clear H3
  have H9 := Lib.hid (Rep.keep H4.out (w' := ((w.alloc (.cells #[.slice Aa0_0 na0_0 ca0_0, .slice Aa0_1 na0_1 ca0_1, .slice Aa0_2 na0_2 ca0_2, .slice Aa0_3 na0_3 ca0_3] 42)).alloc (.cells #[.slice Aa1_0 na1_0 ca1_0, .slice Aa1_1 na1_1 ca1_1] 66))) (fun p hb => World.cell?_alloc_lt _ _ p (by have : _ < w.heap.size := hb; (try simp) <;> omega)))
  clear H4
  have H10 := Lib.hid (HX1.out.alloc (.cells #[.slice Aa1_0 na1_0 ca1_0, .slice Aa1_1 na1_1 ca1_1] 66))
  clear HX1
  have HB11 := Lib.hid (HB5.out.alloc (by have := HB5.out.size; (try simp) <;> omega) (.cells #[.slice Aa1_0 na1_0 ca1_0, .slice Aa1_1 na1_1 ca1_1] 66))
  clear HB5
  have HX6 := Lib.hid (show Blk ((w.alloc (.cells #[.slice Aa0_0 na0_0 ca0_0, .slice Aa0_1 na0_1 ca0_1, .slice Aa0_2 na0_2 ca0_2, .slice Aa0_3 na0_3 ca0_3] 42)).alloc (.cells #[.slice Aa1_0 na1_0 ca1_0, .slice Aa1_1 na1_1 ca1_1] 66)) (w.heap.size + 1) 66 #[.slice Aa1_0 na1_0 ca1_0, .slice Aa1_1 na1_1 ca1_1] from by have h := Blk.new ((w.alloc (.cells #[.slice Aa0_0 na0_0 ca0_0, .slice Aa0_1 na0_1 ca0_1, .slice Aa0_2 na0_2 ca0_2, .slice Aa0_3 na0_3 ca0_3] 42))) 66 #[.slice Aa1_0 na1_0 ca1_0, .slice Aa1_1 na1_1 ca1_1]; simpa using h)
  obtain ⟨yH10_0, yH10_1, yH10_2, yH10_3⟩ := blkS4 H10.out
  go_wp2_with fail
  refine (d_szModule (1048576) (by omega) H7.out (fun b hb => by have : _ < w.heap.size := hb; (try simp) <;> omega)).mono ?_
  rintro e w1 ⟨rfl, hb1⟩
  obtain ⟨cz0, hcz0⟩ : ∃ zz, zz = sModule m := ⟨_, rfl⟩
  rw [← hcz0]
  have zw1 := hb1.size
  try simp at zw1
  have H12 := Lib.hid (RModule.keep H7.out (w' := w1) (fun p hb => hb1.cell (by have : _ < w.heap.size := hb; (try simp) <;> omega)))
  clear H7
  have H13 := Lib.hid (RWordState.keep H8.out (w' := w1) (fun p hb => hb1.cell (by have : _ < w.heap.size := hb; (try simp) <;> omega)))
  clear H8
  have H14 := Lib.hid (Rep.keep H9.out (w' := w1) (fun p hb => hb1.cell (by have : _ < w.heap.size := hb; (try simp) <;> omega)))
  clear H9
  have H15 := Lib.hid (H10.out.below hb1 H10.out.lt)
  clear H10
  have H16 := Lib.hid (HX6.out.below hb1 HX6.out.lt)
  clear HX6
  have HB17 := Lib.hid (HB11.out.trans (hb1.mono (by have := HB11.out.size; (try simp) <;> omega)))
  clear HB11
  clear hb1
  by_cases bcz0 : cz0 ≤ 1048576
  rotate_left
  · rw [leftD_no bcz0]
    clear hcz0
    go_wp2_with fail
    go_ret
    exact ⟨rfl, HB17.out⟩
  obtain ⟨lf0, hlf0⟩ : ∃ zz, zz = 1048576 - cz0 := ⟨_, rfl⟩
  rw [leftD_yes bcz0, ← hlf0]
  have HZ0 := Lib.hid (show sModule m ≤ 1048576 by rw [← hcz0]; omega)
  have hllf0 : lf0 ≤ 1048576 := by omega
  clear hcz0 bcz0 hlf0
  clear yH10_0 yH10_1 yH10_2 yH10_3
  obtain ⟨yH16_0, yH16_1⟩ := blkS2 H16.out
  go_wp2_with fail
  refine (d_szWordState (lf0) (by omega) H13.out (fun b hb => by have : _ < w.heap.size := hb; (try simp) <;> omega)).mono ?_
  rintro e w2 ⟨rfl, hb2⟩
  obtain ⟨cz1, hcz1⟩ : ∃ zz, zz = sWordState st := ⟨_, rfl⟩
  rw [← hcz1]
  have zw2 := hb2.size
  try simp at zw2
  have H18 := Lib.hid (RModule.keep H12.out (w' := w2) (fun p hb => hb2.cell (by have : _ < w.heap.size := hb; (try simp) <;> omega)))
  clear H12
  have H19 := Lib.hid (RWordState.keep H13.out (w' := w2) (fun p hb => hb2.cell (by have : _ < w.heap.size := hb; (try simp) <;> omega)))
  clear H13
  have H20 := Lib.hid (Rep.keep H14.out (w' := w2) (fun p hb => hb2.cell (by have : _ < w.heap.size := hb; (try simp) <;> omega)))
  clear H14
  have H21 := Lib.hid (H15.out.below hb2 H15.out.lt)
  clear H15
  have H22 := Lib.hid (H16.out.below hb2 H16.out.lt)
  clear H16
  have HB23 := Lib.hid (HB17.out.trans (hb2.mono (by have := HB17.out.size; (try simp) <;> omega)))
  clear HB17
  clear hb2
  by_cases bcz1 : cz1 ≤ lf0
  rotate_left
  · rw [leftD_no bcz1]
    clear hcz1
    go_wp2_with fail
    go_ret
    exact ⟨rfl, HB23.out⟩
  obtain ⟨lf1, hlf1⟩ : ∃ zz, zz = lf0 - cz1 := ⟨_, rfl⟩
  rw [leftD_yes bcz1, ← hlf1]
  have HZ1 := Lib.hid (show sWordState st ≤ 1048576 by rw [← hcz1]; omega)
  have hllf1 : lf1 ≤ 1048576 := by omega
  clear hcz1 bcz1 hlf1
  clear yH16_0 yH16_1
  go_wp2_with fail
  refine wp_region_lexC (by kernel_rfl) (by kernel_rfl) (fun x => Below w2.heap.size w2 x) ((Below.refl _ _).drew) (fun lexNE => ?_)
  obtain ⟨cH21_0, cH21_1, cH21_2, cH21_3⟩ := bwS4 (B := w2.heap.size) H21.out H21.out.lt
  obtain ⟨cH22_0, cH22_1⟩ := bwS2 (B := w2.heap.size) H22.out H22.out.lt
  have HL24 := Lib.hid ((Below.refl w2.heap.size w2).drew)
  have H25 := Lib.hid (RModule.keep H18.out (w' := w2.drew) (fun p hb => rfl))
  clear H18
  have H26 := Lib.hid (RWordState.keep H19.out (w' := w2.drew) (fun p hb => rfl))
  clear H19
  have H27 := Lib.hid (Rep.keep H20.out (w' := w2.drew) (fun p hb => rfl))
  clear H20
  have H28 := Lib.hid (H21.out.drew)
  clear H21
  have H29 := Lib.hid (H22.out.drew)
  clear H22
  have HB30 := Lib.hid (HB23.out.drew)
  clear HB23
  (repeat (first | (refine lex_read (by first | exact wanted_n rfl | exact wanted_g rfl rfl rfl rfl) (by exact rfl) (fun K hK => ?_); go_big_quiet_op; refine hK _ ?_; clear hK K) | (refine lex_skip' (by exact wanted_g rfl rfl rfl rfl) (fun K hK => ?_); go_simp; refine hK _ ?_; clear hK K)))
  (refine lex_eff (by first | exact wanted_n rfl | exact wanted_g rfl rfl rfl rfl) (by exact rfl) (fun K hK => ?_); go_big_op)
  refine (d_toModule HZ0.out H25.out (fun b hb => by have : _ < w.heap.size := hb; (try simp) <;> omega)).mono ?_
  rintro e w3 ⟨vw3, rfl, hqw3, hb3⟩
  obtain ⟨Aw3_0, nw3_0, cw3_0, Aw3_1, nw3_1, cw3_1, Aw3_2, nw3_2, cw3_2, Aw3_3, nw3_3, cw3_3, rfl⟩ := hqw3.r.form
  have HQw3 := Lib.hid (QModule.mono hqw3 (S' := Iv (w2.heap.size) (w3.heap.size)) (fun b hb => by have := hb; simp [New] at this; exact ⟨by omega, this.2⟩))
  clear hqw3
  have zw3 := hb3.size
  try simp at zw3
  have H31 := Lib.hid (RModule.keep H25.out (w' := w3) (fun p hb => hb3.cell (by have : _ < w.heap.size := hb; (try simp) <;> omega)))
  clear H25
  have H32 := Lib.hid (RWordState.keep H26.out (w' := w3) (fun p hb => hb3.cell (by have : _ < w.heap.size := hb; (try simp) <;> omega)))
  clear H26
  have H33 := Lib.hid (Rep.keep H27.out (w' := w3) (fun p hb => hb3.cell (by have : _ < w.heap.size := hb; (try simp) <;> omega)))
  clear H27
  have H34 := Lib.hid (H28.out.below hb3 H28.out.lt)
  clear H28
  have H35 := Lib.hid (H29.out.below hb3 H29.out.lt)
  clear H29
  have HB36 := Lib.hid (HB30.out.trans (hb3.mono (by have := HB30.out.size; (try simp) <;> omega)))
  clear HB30
  have HL37 := Lib.hid (HL24.out.trans (hb3.mono HL24.out.size))
  clear HL24
  refine hK _ _ (Cls.mk' HL37.out) ?_
  clear hK K hb3
  (repeat (first | (refine lex_read (by first | exact wanted_n rfl | exact wanted_g rfl rfl rfl rfl) (by exact rfl) (fun K hK => ?_); go_big_quiet_op; refine hK _ ?_; clear hK K) | (refine lex_skip' (by exact wanted_g rfl rfl rfl rfl) (fun K hK => ?_); go_simp; refine hK _ ?_; clear hK K)))
  (refine lex_eff (by first | exact wanted_n rfl | exact wanted_g rfl rfl rfl rfl) (by exact rfl) (fun K hK => ?_); go_big_op)
  refine (d_toWordState HZ1.out H32.out (fun b hb => by have : _ < w.heap.size := hb; (try simp) <;> omega)).mono ?_
  rintro e w4 ⟨vw4, rfl, hqw4, hb4⟩
  obtain ⟨Aw4_0, nw4_0, cw4_0, Aw4_1, nw4_1, cw4_1, rfl⟩ := hqw4.r.form
  have HQw4 := Lib.hid (QWordState.mono hqw4 (S' := Iv (w3.heap.size) (w4.heap.size)) (fun b hb => by have := hb; simp [New] at this; exact ⟨by omega, this.2⟩))
  clear hqw4
  have zw4 := hb4.size
  try simp at zw4
  have H38 := Lib.hid (RModule.keep H31.out (w' := w4) (fun p hb => hb4.cell (by have : _ < w.heap.size := hb; (try simp) <;> omega)))
  clear H31
  have H39 := Lib.hid (RWordState.keep H32.out (w' := w4) (fun p hb => hb4.cell (by have : _ < w.heap.size := hb; (try simp) <;> omega)))
  clear H32
  have H40 := Lib.hid (Rep.keep H33.out (w' := w4) (fun p hb => hb4.cell (by have : _ < w.heap.size := hb; (try simp) <;> omega)))
  clear H33
  have H41 := Lib.hid (H34.out.below hb4 H34.out.lt)
  clear H34
  have H42 := Lib.hid (H35.out.below hb4 H35.out.lt)
  clear H35
  have H43 := Lib.hid (QModule.keep HQw3.out (w' := w4) (fun b hb => hb4.block b (by have := hb; simp only [Iv] at this; (try simp) <;> omega)))
  clear HQw3
  have HB44 := Lib.hid (HB36.out.trans (hb4.mono (by have := HB36.out.size; (try simp) <;> omega)))
  clear HB36
  have HL45 := Lib.hid (HL37.out.trans (hb4.mono HL37.out.size))
  clear HL37
  refine hK _ _ (Cls.mk' HL45.out) ?_
  clear hK K hb4
  (repeat (first | (refine lex_read (by first | exact wanted_n rfl | exact wanted_g rfl rfl rfl rfl) (by exact rfl) (fun K hK => ?_); go_big_quiet_op; refine hK _ ?_; clear hK K) | (refine lex_skip' (by exact wanted_g rfl rfl rfl rfl) (fun K hK => ?_); go_simp; refine hK _ ?_; clear hK K)))
  (refine lex_eff (by first | exact wanted_n rfl | exact wanted_g rfl rfl rfl rfl) (by exact rfl) (fun K hK => ?_); go_big_op)
  refine (d_toIntS HZ2.out H40.out (fun b hb => by have : _ < w.heap.size := hb; (try simp) <;> omega)).mono ?_
  rintro e w5 ⟨vw5, rfl, hqw5, hb5⟩
  obtain ⟨Aw5, nw5, cw5, rfl⟩ := slv_of hqw5.rep
  have HQw5 := Lib.hid (Sep.mono hqw5 (S' := Iv (w4.heap.size) (w5.heap.size)) (fun b hb => by have := hb; simp [New] at this; exact ⟨by omega, this.2⟩))
  clear hqw5
  have zw5 := hb5.size
  try simp at zw5
  have H46 := Lib.hid (RModule.keep H38.out (w' := w5) (fun p hb => hb5.cell (by have : _ < w.heap.size := hb; (try simp) <;> omega)))
  clear H38
  have H47 := Lib.hid (RWordState.keep H39.out (w' := w5) (fun p hb => hb5.cell (by have : _ < w.heap.size := hb; (try simp) <;> omega)))
  clear H39
  have H48 := Lib.hid (Rep.keep H40.out (w' := w5) (fun p hb => hb5.cell (by have : _ < w.heap.size := hb; (try simp) <;> omega)))
  clear H40
  have H49 := Lib.hid (H41.out.below hb5 H41.out.lt)
  clear H41
  have H50 := Lib.hid (H42.out.below hb5 H42.out.lt)
  clear H42
  have H51 := Lib.hid (QModule.keep H43.out (w' := w5) (fun b hb => hb5.block b (by have := hb; simp only [Iv] at this; (try simp) <;> omega)))
  clear H43
  have H52 := Lib.hid (QWordState.keep HQw4.out (w' := w5) (fun b hb => hb5.block b (by have := hb; simp only [Iv] at this; (try simp) <;> omega)))
  clear HQw4
  have HB53 := Lib.hid (HB44.out.trans (hb5.mono (by have := HB44.out.size; (try simp) <;> omega)))
  clear HB44
  have HL54 := Lib.hid (HL45.out.trans (hb5.mono HL45.out.size))
  clear HL45
  refine hK _ _ (Cls.mk' HL54.out) ?_
  clear hK K hb5
  (repeat (first | (refine lex_read (by first | exact wanted_n rfl | exact wanted_g rfl rfl rfl rfl) (by exact rfl) (fun K hK => ?_); go_big_quiet_op; refine hK _ ?_; clear hK K) | (refine lex_skip' (by exact wanted_g rfl rfl rfl rfl) (fun K hK => ?_); go_simp; refine hK _ ?_; clear hK K)))
  (refine lex_eff (by first | exact wanted_n rfl | exact wanted_g rfl rfl rfl rfl) (by exact rfl) (fun K hK => ?_); go_big_op)
  refine (s_SignalValues HZ0.out H51.out.r (fun b hb => by have := hb; simp only [Iv] at this; (try simp) <;> omega) H52.out.r (fun b hb => by have := hb; simp only [Iv] at this; (try simp) <;> omega) HQw5.out.rep (fun b hb => by have := hb; simp only [Iv] at this; (try simp) <;> omega)).mono ?_
  rintro e w6 ⟨vw6_0, rfl, hqw6_0, hb6⟩
  obtain ⟨Aw6_0, nw6_0, cw6_0, rfl⟩ := slv_of hqw6_0.rep
  have HQw6_0 := Lib.hid (Sep.mono hqw6_0 (S' := Iv (w5.heap.size) (w6.heap.size)) (fun b hb => by have := hb; simp [New] at this; exact ⟨by omega, this.2⟩))
  clear hqw6_0
  have zw6 := hb6.size
  try simp at zw6
  have H55 := Lib.hid (RModule.keep H46.out (w' := w6) (fun p hb => hb6.cell (by have : _ < w.heap.size := hb; (try simp) <;> omega)))
  clear H46
  have H56 := Lib.hid (RWordState.keep H47.out (w' := w6) (fun p hb => hb6.cell (by have : _ < w.heap.size := hb; (try simp) <;> omega)))
  clear H47
  have H57 := Lib.hid (Rep.keep H48.out (w' := w6) (fun p hb => hb6.cell (by have : _ < w.heap.size := hb; (try simp) <;> omega)))
  clear H48
  have H58 := Lib.hid (H49.out.below hb6 H49.out.lt)
  clear H49
  have H59 := Lib.hid (H50.out.below hb6 H50.out.lt)
  clear H50
  have H60 := Lib.hid (QModule.keep H51.out (w' := w6) (fun b hb => hb6.block b (by have := hb; simp only [Iv] at this; (try simp) <;> omega)))
  clear H51
  have H61 := Lib.hid (QWordState.keep H52.out (w' := w6) (fun b hb => hb6.block b (by have := hb; simp only [Iv] at this; (try simp) <;> omega)))
  clear H52
  have H62 := Lib.hid (Sep.keep HQw5.out (w' := w6) (fun b hb => hb6.block b (by have := hb; simp only [Iv] at this; (try simp) <;> omega)))
  clear HQw5
  have HB63 := Lib.hid (HB53.out.trans (hb6.mono (by have := HB53.out.size; (try simp) <;> omega)))
  clear HB53
  have HL64 := Lib.hid (HL54.out.trans (hb6.mono HL54.out.size))
  clear HL54
  refine hK _ _ (Cls.mk' HL64.out) ?_
  clear hK K hb6
  (repeat (first | (refine lex_read (by first | exact wanted_n rfl | exact wanted_g rfl rfl rfl rfl) (by exact rfl) (fun K hK => ?_); go_big_quiet_op; refine hK _ ?_; clear hK K) | (refine lex_skip' (by exact wanted_g rfl rfl rfl rfl) (fun K hK => ?_); go_simp; refine hK _ ?_; clear hK K)))
  (refine lex_nil ?_)
  clear lexNE cH21_0 cH21_1 cH21_2 cH21_3 cH22_0 cH22_1
  obtain ⟨yH58_0, yH58_1, yH58_2, yH58_3⟩ := blkS4 H58.out
  go_wp2_with fail
  refine (d_toModule HZ0.out H55.out (fun b hb => by have : _ < w.heap.size := hb; (try simp) <;> omega)).mono ?_
  rintro e w7 ⟨vw7, rfl, hqw7, hb7⟩
  obtain ⟨Aw7_0, nw7_0, cw7_0, Aw7_1, nw7_1, cw7_1, Aw7_2, nw7_2, cw7_2, Aw7_3, nw7_3, cw7_3, rfl⟩ := hqw7.r.form
  have HQw7 := Lib.hid (QModule.mono hqw7 (S' := Iv (w6.heap.size) (w7.heap.size)) (fun b hb => by have := hb; simp [New] at this; exact ⟨by omega, this.2⟩))
  clear hqw7
  have zw7 := hb7.size
  try simp at zw7
  have H65 := Lib.hid (RModule.keep H55.out (w' := w7) (fun p hb => hb7.cell (by have : _ < w.heap.size := hb; (try simp) <;> omega)))
  clear H55
  have H66 := Lib.hid (RWordState.keep H56.out (w' := w7) (fun p hb => hb7.cell (by have : _ < w.heap.size := hb; (try simp) <;> omega)))
  clear H56
  have H67 := Lib.hid (Rep.keep H57.out (w' := w7) (fun p hb => hb7.cell (by have : _ < w.heap.size := hb; (try simp) <;> omega)))
  clear H57
  have H68 := Lib.hid (H58.out.below hb7 H58.out.lt)
  clear H58
  have H69 := Lib.hid (H59.out.below hb7 H59.out.lt)
  clear H59
  have H70 := Lib.hid (QModule.keep H60.out (w' := w7) (fun b hb => hb7.block b (by have := hb; simp only [Iv] at this; (try simp) <;> omega)))
  clear H60
  have H71 := Lib.hid (QWordState.keep H61.out (w' := w7) (fun b hb => hb7.block b (by have := hb; simp only [Iv] at this; (try simp) <;> omega)))
  clear H61
  have H72 := Lib.hid (Sep.keep H62.out (w' := w7) (fun b hb => hb7.block b (by have := hb; simp only [Iv] at this; (try simp) <;> omega)))
  clear H62
  have H73 := Lib.hid (Sep.keep HQw6_0.out (w' := w7) (fun b hb => hb7.block b (by have := hb; simp only [Iv] at this; (try simp) <;> omega)))
  clear HQw6_0
  have HB74 := Lib.hid (HB63.out.trans (hb7.mono (by have := HB63.out.size; (try simp) <;> omega)))
  clear HB63
  clear hb7
  have H76 := Lib.hid (RModule.keep H65.out (w' := (w7.alloc (.cells #[.slice Aw7_0 nw7_0 cw7_0, .slice Aw7_1 nw7_1 cw7_1, .slice Aw7_2 nw7_2 cw7_2, .slice Aw7_3 nw7_3 cw7_3] 52))) (fun p hb => World.cell?_alloc_lt _ _ p (by have : _ < w.heap.size := hb; (try simp) <;> omega)))
  clear H65
  have H77 := Lib.hid (RWordState.keep H66.out (w' := (w7.alloc (.cells #[.slice Aw7_0 nw7_0 cw7_0, .slice Aw7_1 nw7_1 cw7_1, .slice Aw7_2 nw7_2 cw7_2, .slice Aw7_3 nw7_3 cw7_3] 52))) (fun p hb => World.cell?_alloc_lt _ _ p (by have : _ < w.heap.size := hb; (try simp) <;> omega)))
  clear H66
  have H78 := Lib.hid (Rep.keep H67.out (w' := (w7.alloc (.cells #[.slice Aw7_0 nw7_0 cw7_0, .slice Aw7_1 nw7_1 cw7_1, .slice Aw7_2 nw7_2 cw7_2, .slice Aw7_3 nw7_3 cw7_3] 52))) (fun p hb => World.cell?_alloc_lt _ _ p (by have : _ < w.heap.size := hb; (try simp) <;> omega)))
  clear H67
  have H79 := Lib.hid (H68.out.alloc (.cells #[.slice Aw7_0 nw7_0 cw7_0, .slice Aw7_1 nw7_1 cw7_1, .slice Aw7_2 nw7_2 cw7_2, .slice Aw7_3 nw7_3 cw7_3] 52))
  clear H68
  have H80 := Lib.hid (H69.out.alloc (.cells #[.slice Aw7_0 nw7_0 cw7_0, .slice Aw7_1 nw7_1 cw7_1, .slice Aw7_2 nw7_2 cw7_2, .slice Aw7_3 nw7_3 cw7_3] 52))
  clear H69
  have H81 := Lib.hid (QModule.keep H70.out (w' := (w7.alloc (.cells #[.slice Aw7_0 nw7_0 cw7_0, .slice Aw7_1 nw7_1 cw7_1, .slice Aw7_2 nw7_2 cw7_2, .slice Aw7_3 nw7_3 cw7_3] 52))) (fun b hb => Below.heap_alloc _ _ b (by have := hb; simp only [Iv] at this; (try simp) <;> omega)))
  clear H70
  have H82 := Lib.hid (QWordState.keep H71.out (w' := (w7.alloc (.cells #[.slice Aw7_0 nw7_0 cw7_0, .slice Aw7_1 nw7_1 cw7_1, .slice Aw7_2 nw7_2 cw7_2, .slice Aw7_3 nw7_3 cw7_3] 52))) (fun b hb => Below.heap_alloc _ _ b (by have := hb; simp only [Iv] at this; (try simp) <;> omega)))
  clear H71
  have H83 := Lib.hid (Sep.keep H72.out (w' := (w7.alloc (.cells #[.slice Aw7_0 nw7_0 cw7_0, .slice Aw7_1 nw7_1 cw7_1, .slice Aw7_2 nw7_2 cw7_2, .slice Aw7_3 nw7_3 cw7_3] 52))) (fun b hb => Below.heap_alloc _ _ b (by have := hb; simp only [Iv] at this; (try simp) <;> omega)))
  clear H72
  have H84 := Lib.hid (Sep.keep H73.out (w' := (w7.alloc (.cells #[.slice Aw7_0 nw7_0 cw7_0, .slice Aw7_1 nw7_1 cw7_1, .slice Aw7_2 nw7_2 cw7_2, .slice Aw7_3 nw7_3 cw7_3] 52))) (fun b hb => Below.heap_alloc _ _ b (by have := hb; simp only [Iv] at this; (try simp) <;> omega)))
  clear H73
  have H85 := Lib.hid (QModule.keep HQw7.out (w' := (w7.alloc (.cells #[.slice Aw7_0 nw7_0 cw7_0, .slice Aw7_1 nw7_1 cw7_1, .slice Aw7_2 nw7_2 cw7_2, .slice Aw7_3 nw7_3 cw7_3] 52))) (fun b hb => Below.heap_alloc _ _ b (by have := hb; simp only [Iv] at this; (try simp) <;> omega)))
  clear HQw7
  have HB86 := Lib.hid (HB74.out.alloc (by have := HB74.out.size; (try simp) <;> omega) (.cells #[.slice Aw7_0 nw7_0 cw7_0, .slice Aw7_1 nw7_1 cw7_1, .slice Aw7_2 nw7_2 cw7_2, .slice Aw7_3 nw7_3 cw7_3] 52))
  clear HB74
  have HX75 := Lib.hid (show Blk (w7.alloc (.cells #[.slice Aw7_0 nw7_0 cw7_0, .slice Aw7_1 nw7_1 cw7_1, .slice Aw7_2 nw7_2 cw7_2, .slice Aw7_3 nw7_3 cw7_3] 52)) (w7.heap.size) 52 #[.slice Aw7_0 nw7_0 cw7_0, .slice Aw7_1 nw7_1 cw7_1, .slice Aw7_2 nw7_2 cw7_2, .slice Aw7_3 nw7_3 cw7_3] from by have h := Blk.new (w7) 52 #[.slice Aw7_0 nw7_0 cw7_0, .slice Aw7_1 nw7_1 cw7_1, .slice Aw7_2 nw7_2 cw7_2, .slice Aw7_3 nw7_3 cw7_3]; simpa using h)
  clear yH58_0 yH58_1 yH58_2 yH58_3
  obtain ⟨yH80_0, yH80_1⟩ := blkS2 H80.out
  go_wp2_with fail
  refine (d_toWordState HZ1.out H77.out (fun b hb => by have : _ < w.heap.size := hb; (try simp) <;> omega)).mono ?_
  rintro e w8 ⟨vw8, rfl, hqw8, hb8⟩
  obtain ⟨Aw8_0, nw8_0, cw8_0, Aw8_1, nw8_1, cw8_1, rfl⟩ := hqw8.r.form
  have HQw8 := Lib.hid (QWordState.mono hqw8 (S' := Iv (w7.heap.size + 1) (w8.heap.size)) (fun b hb => by have := hb; simp [New] at this; exact ⟨by omega, this.2⟩))
  clear hqw8
  have zw8 := hb8.size
  try simp at zw8
  have H87 := Lib.hid (RModule.keep H76.out (w' := w8) (fun p hb => hb8.cell (by have : _ < w.heap.size := hb; (try simp) <;> omega)))
  clear H76
  have H88 := Lib.hid (RWordState.keep H77.out (w' := w8) (fun p hb => hb8.cell (by have : _ < w.heap.size := hb; (try simp) <;> omega)))
  clear H77
  have H89 := Lib.hid (Rep.keep H78.out (w' := w8) (fun p hb => hb8.cell (by have : _ < w.heap.size := hb; (try simp) <;> omega)))
  clear H78
  have H90 := Lib.hid (H79.out.below hb8 H79.out.lt)
  clear H79
  have H91 := Lib.hid (H80.out.below hb8 H80.out.lt)
  clear H80
  have H92 := Lib.hid (QModule.keep H81.out (w' := w8) (fun b hb => hb8.block b (by have := hb; simp only [Iv] at this; (try simp) <;> omega)))
  clear H81
  have H93 := Lib.hid (QWordState.keep H82.out (w' := w8) (fun b hb => hb8.block b (by have := hb; simp only [Iv] at this; (try simp) <;> omega)))
  clear H82
  have H94 := Lib.hid (Sep.keep H83.out (w' := w8) (fun b hb => hb8.block b (by have := hb; simp only [Iv] at this; (try simp) <;> omega)))
  clear H83
  have H95 := Lib.hid (Sep.keep H84.out (w' := w8) (fun b hb => hb8.block b (by have := hb; simp only [Iv] at this; (try simp) <;> omega)))
  clear H84
  have H96 := Lib.hid (QModule.keep H85.out (w' := w8) (fun b hb => hb8.block b (by have := hb; simp only [Iv] at this; (try simp) <;> omega)))
  clear H85
  have H97 := Lib.hid (HX75.out.below hb8 HX75.out.lt)
  clear HX75
  have HB98 := Lib.hid (HB86.out.trans (hb8.mono (by have := HB86.out.size; (try simp) <;> omega)))
  clear HB86
  clear hb8
  have H100 := Lib.hid (RModule.keep H87.out (w' := (w8.alloc (.cells #[.slice Aw8_0 nw8_0 cw8_0, .slice Aw8_1 nw8_1 cw8_1] 69))) (fun p hb => World.cell?_alloc_lt _ _ p (by have : _ < w.heap.size := hb; (try simp) <;> omega)))
  clear H87
  have H101 := Lib.hid (RWordState.keep H88.out (w' := (w8.alloc (.cells #[.slice Aw8_0 nw8_0 cw8_0, .slice Aw8_1 nw8_1 cw8_1] 69))) (fun p hb => World.cell?_alloc_lt _ _ p (by have : _ < w.heap.size := hb; (try simp) <;> omega)))
  clear H88
  have H102 := Lib.hid (Rep.keep H89.out (w' := (w8.alloc (.cells #[.slice Aw8_0 nw8_0 cw8_0, .slice Aw8_1 nw8_1 cw8_1] 69))) (fun p hb => World.cell?_alloc_lt _ _ p (by have : _ < w.heap.size := hb; (try simp) <;> omega)))
  clear H89
  have H103 := Lib.hid (H90.out.alloc (.cells #[.slice Aw8_0 nw8_0 cw8_0, .slice Aw8_1 nw8_1 cw8_1] 69))
  clear H90
  have H104 := Lib.hid (H91.out.alloc (.cells #[.slice Aw8_0 nw8_0 cw8_0, .slice Aw8_1 nw8_1 cw8_1] 69))
  clear H91
  have H105 := Lib.hid (QModule.keep H92.out (w' := (w8.alloc (.cells #[.slice Aw8_0 nw8_0 cw8_0, .slice Aw8_1 nw8_1 cw8_1] 69))) (fun b hb => Below.heap_alloc _ _ b (by have := hb; simp only [Iv] at this; (try simp) <;> omega)))
  clear H92
  have H106 := Lib.hid (QWordState.keep H93.out (w' := (w8.alloc (.cells #[.slice Aw8_0 nw8_0 cw8_0, .slice Aw8_1 nw8_1 cw8_1] 69))) (fun b hb => Below.heap_alloc _ _ b (by have := hb; simp only [Iv] at this; (try simp) <;> omega)))
  clear H93
  have H107 := Lib.hid (Sep.keep H94.out (w' := (w8.alloc (.cells #[.slice Aw8_0 nw8_0 cw8_0, .slice Aw8_1 nw8_1 cw8_1] 69))) (fun b hb => Below.heap_alloc _ _ b (by have := hb; simp only [Iv] at this; (try simp) <;> omega)))
  clear H94
  have H108 := Lib.hid (Sep.keep H95.out (w' := (w8.alloc (.cells #[.slice Aw8_0 nw8_0 cw8_0, .slice Aw8_1 nw8_1 cw8_1] 69))) (fun b hb => Below.heap_alloc _ _ b (by have := hb; simp only [Iv] at this; (try simp) <;> omega)))
  clear H95
  have H109 := Lib.hid (QModule.keep H96.out (w' := (w8.alloc (.cells #[.slice Aw8_0 nw8_0 cw8_0, .slice Aw8_1 nw8_1 cw8_1] 69))) (fun b hb => Below.heap_alloc _ _ b (by have := hb; simp only [Iv] at this; (try simp) <;> omega)))
  clear H96
  have H110 := Lib.hid (H97.out.alloc (.cells #[.slice Aw8_0 nw8_0 cw8_0, .slice Aw8_1 nw8_1 cw8_1] 69))
  clear H97
  have H111 := Lib.hid (QWordState.keep HQw8.out (w' := (w8.alloc (.cells #[.slice Aw8_0 nw8_0 cw8_0, .slice Aw8_1 nw8_1 cw8_1] 69))) (fun b hb => Below.heap_alloc _ _ b (by have := hb; simp only [Iv] at this; (try simp) <;> omega)))
  clear HQw8
  have HB112 := Lib.hid (HB98.out.alloc (by have := HB98.out.size; (try simp) <;> omega) (.cells #[.slice Aw8_0 nw8_0 cw8_0, .slice Aw8_1 nw8_1 cw8_1] 69))
  clear HB98
  have HX99 := Lib.hid (show Blk (w8.alloc (.cells #[.slice Aw8_0 nw8_0 cw8_0, .slice Aw8_1 nw8_1 cw8_1] 69)) (w8.heap.size) 69 #[.slice Aw8_0 nw8_0 cw8_0, .slice Aw8_1 nw8_1 cw8_1] from by have h := Blk.new (w8) 69 #[.slice Aw8_0 nw8_0 cw8_0, .slice Aw8_1 nw8_1 cw8_1]; simpa using h)
  clear yH80_0 yH80_1
  go_wp2_with fail
  refine (d_toIntS HZ2.out H102.out (fun b hb => by have : _ < w.heap.size := hb; (try simp) <;> omega)).mono ?_
  rintro e w9 ⟨vw9, rfl, hqw9, hb9⟩
  obtain ⟨Aw9, nw9, cw9, rfl⟩ := slv_of hqw9.rep
  have HQw9 := Lib.hid (Sep.mono hqw9 (S' := Iv (w8.heap.size + 1) (w9.heap.size)) (fun b hb => by have := hb; simp [New] at this; exact ⟨by omega, this.2⟩))
  clear hqw9
  have zw9 := hb9.size
  try simp at zw9
  have H113 := Lib.hid (RModule.keep H100.out (w' := w9) (fun p hb => hb9.cell (by have : _ < w.heap.size := hb; (try simp) <;> omega)))
  clear H100
  have H114 := Lib.hid (RWordState.keep H101.out (w' := w9) (fun p hb => hb9.cell (by have : _ < w.heap.size := hb; (try simp) <;> omega)))
  clear H101
  have H115 := Lib.hid (Rep.keep H102.out (w' := w9) (fun p hb => hb9.cell (by have : _ < w.heap.size := hb; (try simp) <;> omega)))
  clear H102
  have H116 := Lib.hid (H103.out.below hb9 H103.out.lt)
  clear H103
  have H117 := Lib.hid (H104.out.below hb9 H104.out.lt)
  clear H104
  have H118 := Lib.hid (QModule.keep H105.out (w' := w9) (fun b hb => hb9.block b (by have := hb; simp only [Iv] at this; (try simp) <;> omega)))
  clear H105
  have H119 := Lib.hid (QWordState.keep H106.out (w' := w9) (fun b hb => hb9.block b (by have := hb; simp only [Iv] at this; (try simp) <;> omega)))
  clear H106
  have H120 := Lib.hid (Sep.keep H107.out (w' := w9) (fun b hb => hb9.block b (by have := hb; simp only [Iv] at this; (try simp) <;> omega)))
  clear H107
  have H121 := Lib.hid (Sep.keep H108.out (w' := w9) (fun b hb => hb9.block b (by have := hb; simp only [Iv] at this; (try simp) <;> omega)))
  clear H108
  have H122 := Lib.hid (QModule.keep H109.out (w' := w9) (fun b hb => hb9.block b (by have := hb; simp only [Iv] at this; (try simp) <;> omega)))
  clear H109
  have H123 := Lib.hid (H110.out.below hb9 H110.out.lt)
  clear H110
  have H124 := Lib.hid (QWordState.keep H111.out (w' := w9) (fun b hb => hb9.block b (by have := hb; simp only [Iv] at this; (try simp) <;> omega)))
  clear H111
  have H125 := Lib.hid (HX99.out.below hb9 HX99.out.lt)
  clear HX99
  have HB126 := Lib.hid (HB112.out.trans (hb9.mono (by have := HB112.out.size; (try simp) <;> omega)))
  clear HB112
  clear hb9
  obtain ⟨yH123_0, yH123_1, yH123_2, yH123_3⟩ := blkS4 H123.out
  obtain ⟨yH125_0, yH125_1⟩ := blkS2 H125.out
  go_wp2_with fail
  refine (i_SignalValues HZ0.out H122.out.r (fun b hb => by have := hb; simp only [Iv] at this; (try simp) <;> omega) H124.out.r (fun b hb => by have := hb; simp only [Iv] at this; (try simp) <;> omega) HQw9.out.rep (fun b hb => by have := hb; simp only [Iv] at this; (try simp) <;> omega)).mono ?_
  rintro e w10 ⟨vw10_0, rfl, hqw10_0, hb10⟩
  obtain ⟨Aw10_0, nw10_0, cw10_0, rfl⟩ := slv_of hqw10_0.rep
  have HQw10_0 := Lib.hid (Sep.mono hqw10_0 (S' := Iv (w9.heap.size) (w10.heap.size)) (fun b hb => by have := hb; simp [New] at this; exact ⟨by omega, this.2⟩))
  clear hqw10_0
  have zw10 := hb10.size
  try simp at zw10
  have H127 := Lib.hid (RModule.keep H113.out (w' := w10) (fun p hb => hb10.cell (by have : _ < w.heap.size := hb; (try simp) <;> omega)))
  clear H113
  have H128 := Lib.hid (RWordState.keep H114.out (w' := w10) (fun p hb => hb10.cell (by have : _ < w.heap.size := hb; (try simp) <;> omega)))
  clear H114
  have H129 := Lib.hid (Rep.keep H115.out (w' := w10) (fun p hb => hb10.cell (by have : _ < w.heap.size := hb; (try simp) <;> omega)))
  clear H115
  have H130 := Lib.hid (H116.out.below hb10 H116.out.lt)
  clear H116
  have H131 := Lib.hid (H117.out.below hb10 H117.out.lt)
  clear H117
  have H132 := Lib.hid (QModule.keep H118.out (w' := w10) (fun b hb => hb10.block b (by have := hb; simp only [Iv] at this; (try simp) <;> omega)))
  clear H118
  have H133 := Lib.hid (QWordState.keep H119.out (w' := w10) (fun b hb => hb10.block b (by have := hb; simp only [Iv] at this; (try simp) <;> omega)))
  clear H119
  have H134 := Lib.hid (Sep.keep H120.out (w' := w10) (fun b hb => hb10.block b (by have := hb; simp only [Iv] at this; (try simp) <;> omega)))
  clear H120
  have H135 := Lib.hid (Sep.keep H121.out (w' := w10) (fun b hb => hb10.block b (by have := hb; simp only [Iv] at this; (try simp) <;> omega)))
  clear H121
  have H136 := Lib.hid (QModule.keep H122.out (w' := w10) (fun b hb => hb10.block b (by have := hb; simp only [Iv] at this; (try simp) <;> omega)))
  clear H122
  have H137 := Lib.hid (H123.out.below hb10 H123.out.lt)
  clear H123
  have H138 := Lib.hid (QWordState.keep H124.out (w' := w10) (fun b hb => hb10.block b (by have := hb; simp only [Iv] at this; (try simp) <;> omega)))
  clear H124
  have H139 := Lib.hid (H125.out.below hb10 H125.out.lt)
  clear H125
  have H140 := Lib.hid (Sep.keep HQw9.out (w' := w10) (fun b hb => hb10.block b (by have := hb; simp only [Iv] at this; (try simp) <;> omega)))
  clear HQw9
  have HB141 := Lib.hid (HB126.out.trans (hb10.mono (by have := HB126.out.size; (try simp) <;> omega)))
  clear HB126
  clear hb10
  clear yH123_0 yH123_1 yH123_2 yH123_3 yH125_0 yH125_1
  go_wp2_with fail
  refine (d_eqIntS (sigL_sz m st ins) HQw10_0.out.rep H135.out.rep (fun b hb => by have := hb; simp only [Iv] at this; (try simp) <;> omega) (fun b hb => by have := hb; simp only [Iv] at this; (try simp) <;> omega)).mono ?_
  rintro e w11 ⟨rfl, hb11⟩
  have zw11 := hb11.size
  try simp at zw11
  have H142 := Lib.hid (RModule.keep H127.out (w' := w11) (fun p hb => hb11.cell (by have : _ < w.heap.size := hb; (try simp) <;> omega)))
  clear H127
  have H143 := Lib.hid (RWordState.keep H128.out (w' := w11) (fun p hb => hb11.cell (by have : _ < w.heap.size := hb; (try simp) <;> omega)))
  clear H128
  have H144 := Lib.hid (Rep.keep H129.out (w' := w11) (fun p hb => hb11.cell (by have : _ < w.heap.size := hb; (try simp) <;> omega)))
  clear H129
  have H145 := Lib.hid (H130.out.below hb11 H130.out.lt)
  clear H130
  have H146 := Lib.hid (H131.out.below hb11 H131.out.lt)
  clear H131
  have H147 := Lib.hid (QModule.keep H132.out (w' := w11) (fun b hb => hb11.block b (by have := hb; simp only [Iv] at this; (try simp) <;> omega)))
  clear H132
  have H148 := Lib.hid (QWordState.keep H133.out (w' := w11) (fun b hb => hb11.block b (by have := hb; simp only [Iv] at this; (try simp) <;> omega)))
  clear H133
  have H149 := Lib.hid (Sep.keep H134.out (w' := w11) (fun b hb => hb11.block b (by have := hb; simp only [Iv] at this; (try simp) <;> omega)))
  clear H134
  have H150 := Lib.hid (Sep.keep H135.out (w' := w11) (fun b hb => hb11.block b (by have := hb; simp only [Iv] at this; (try simp) <;> omega)))
  clear H135
  have H151 := Lib.hid (QModule.keep H136.out (w' := w11) (fun b hb => hb11.block b (by have := hb; simp only [Iv] at this; (try simp) <;> omega)))
  clear H136
  have H152 := Lib.hid (H137.out.below hb11 H137.out.lt)
  clear H137
  have H153 := Lib.hid (QWordState.keep H138.out (w' := w11) (fun b hb => hb11.block b (by have := hb; simp only [Iv] at this; (try simp) <;> omega)))
  clear H138
  have H154 := Lib.hid (H139.out.below hb11 H139.out.lt)
  clear H139
  have H155 := Lib.hid (Sep.keep H140.out (w' := w11) (fun b hb => hb11.block b (by have := hb; simp only [Iv] at this; (try simp) <;> omega)))
  clear H140
  have H156 := Lib.hid (Sep.keep HQw10_0.out (w' := w11) (fun b hb => hb11.block b (by have := hb; simp only [Iv] at this; (try simp) <;> omega)))
  clear HQw10_0
  have HB157 := Lib.hid (HB141.out.trans (hb11.mono (by have := HB141.out.size; (try simp) <;> omega)))
  clear HB141
  clear hb11
  go_wp2_with fail
  refine wp_region_lexC (by kernel_rfl) (by kernel_rfl) (fun x => Below w11.heap.size w11 x) ((Below.refl _ _).drew) (fun lexNE => ?_)
  obtain ⟨cH152_0, cH152_1, cH152_2, cH152_3⟩ := bwS4 (B := w11.heap.size) H152.out H152.out.lt
  obtain ⟨cH145_0, cH145_1, cH145_2, cH145_3⟩ := bwS4 (B := w11.heap.size) H145.out H145.out.lt
  have HL158 := Lib.hid ((Below.refl w11.heap.size w11).drew)
  have H159 := Lib.hid (RModule.keep H142.out (w' := w11.drew) (fun p hb => rfl))
  clear H142
  have H160 := Lib.hid (RWordState.keep H143.out (w' := w11.drew) (fun p hb => rfl))
  clear H143
  have H161 := Lib.hid (Rep.keep H144.out (w' := w11.drew) (fun p hb => rfl))
  clear H144
  have H162 := Lib.hid (H145.out.drew)
  clear H145
  have H163 := Lib.hid (H146.out.drew)
  clear H146
  have H164 := Lib.hid (QModule.keep H147.out (w' := w11.drew) (fun b hb => rfl))
  clear H147
  have H165 := Lib.hid (QWordState.keep H148.out (w' := w11.drew) (fun b hb => rfl))
  clear H148
  have H166 := Lib.hid (Sep.keep H149.out (w' := w11.drew) (fun b hb => rfl))
  clear H149
  have H167 := Lib.hid (Sep.keep H150.out (w' := w11.drew) (fun b hb => rfl))
  clear H150
  have H168 := Lib.hid (QModule.keep H151.out (w' := w11.drew) (fun b hb => rfl))
  clear H151
  have H169 := Lib.hid (H152.out.drew)
  clear H152
  have H170 := Lib.hid (QWordState.keep H153.out (w' := w11.drew) (fun b hb => rfl))
  clear H153
  have H171 := Lib.hid (H154.out.drew)
  clear H154
  have H172 := Lib.hid (Sep.keep H155.out (w' := w11.drew) (fun b hb => rfl))
  clear H155
  have H173 := Lib.hid (Sep.keep H156.out (w' := w11.drew) (fun b hb => rfl))
  clear H156
  have HB174 := Lib.hid (HB157.out.drew)
  clear HB157
  (repeat (first | (refine lex_read (by first | exact wanted_n rfl | exact wanted_g rfl rfl rfl rfl) (by exact rfl) (fun K hK => ?_); go_big_quiet_op; refine hK _ ?_; clear hK K) | (refine lex_skip' (by exact wanted_g rfl rfl rfl rfl) (fun K hK => ?_); go_simp; refine hK _ ?_; clear hK K)))
  (refine lex_eff (by first | exact wanted_n rfl | exact wanted_g rfl rfl rfl rfl) (by exact rfl) (fun K hK => ?_); go_big_op)
  refine (d_toModule HZ0.out H159.out (fun b hb => by have : _ < w.heap.size := hb; (try simp) <;> omega)).mono ?_
  rintro e w12 ⟨vw12, rfl, hqw12, hb12⟩
  obtain ⟨Aw12_0, nw12_0, cw12_0, Aw12_1, nw12_1, cw12_1, Aw12_2, nw12_2, cw12_2, Aw12_3, nw12_3, cw12_3, rfl⟩ := hqw12.r.form
  have HQw12 := Lib.hid (QModule.mono hqw12 (S' := Iv (w11.heap.size) (w12.heap.size)) (fun b hb => by have := hb; simp [New] at this; exact ⟨by omega, this.2⟩))
  clear hqw12
  have zw12 := hb12.size
  try simp at zw12
  have H175 := Lib.hid (RModule.keep H159.out (w' := w12) (fun p hb => hb12.cell (by have : _ < w.heap.size := hb; (try simp) <;> omega)))
  clear H159
  have H176 := Lib.hid (RWordState.keep H160.out (w' := w12) (fun p hb => hb12.cell (by have : _ < w.heap.size := hb; (try simp) <;> omega)))
  clear H160
  have H177 := Lib.hid (Rep.keep H161.out (w' := w12) (fun p hb => hb12.cell (by have : _ < w.heap.size := hb; (try simp) <;> omega)))
  clear H161
  have H178 := Lib.hid (H162.out.below hb12 H162.out.lt)
  clear H162
  have H179 := Lib.hid (H163.out.below hb12 H163.out.lt)
  clear H163
  have H180 := Lib.hid (QModule.keep H164.out (w' := w12) (fun b hb => hb12.block b (by have := hb; simp only [Iv] at this; (try simp) <;> omega)))
  clear H164
  have H181 := Lib.hid (QWordState.keep H165.out (w' := w12) (fun b hb => hb12.block b (by have := hb; simp only [Iv] at this; (try simp) <;> omega)))
  clear H165
  have H182 := Lib.hid (Sep.keep H166.out (w' := w12) (fun b hb => hb12.block b (by have := hb; simp only [Iv] at this; (try simp) <;> omega)))
  clear H166
  have H183 := Lib.hid (Sep.keep H167.out (w' := w12) (fun b hb => hb12.block b (by have := hb; simp only [Iv] at this; (try simp) <;> omega)))
  clear H167
  have H184 := Lib.hid (QModule.keep H168.out (w' := w12) (fun b hb => hb12.block b (by have := hb; simp only [Iv] at this; (try simp) <;> omega)))
  clear H168
  have H185 := Lib.hid (H169.out.below hb12 H169.out.lt)
  clear H169
  have H186 := Lib.hid (QWordState.keep H170.out (w' := w12) (fun b hb => hb12.block b (by have := hb; simp only [Iv] at this; (try simp) <;> omega)))
  clear H170
  have H187 := Lib.hid (H171.out.below hb12 H171.out.lt)
  clear H171
  have H188 := Lib.hid (Sep.keep H172.out (w' := w12) (fun b hb => hb12.block b (by have := hb; simp only [Iv] at this; (try simp) <;> omega)))
  clear H172
  have H189 := Lib.hid (Sep.keep H173.out (w' := w12) (fun b hb => hb12.block b (by have := hb; simp only [Iv] at this; (try simp) <;> omega)))
  clear H173
  have HB190 := Lib.hid (HB174.out.trans (hb12.mono (by have := HB174.out.size; (try simp) <;> omega)))
  clear HB174
  have HL191 := Lib.hid (HL158.out.trans (hb12.mono HL158.out.size))
  clear HL158
  refine hK _ _ (Cls.mk' HL191.out) ?_
  clear hK K hb12
  (repeat (first | (refine lex_read (by first | exact wanted_n rfl | exact wanted_g rfl rfl rfl rfl) (by exact rfl) (fun K hK => ?_); go_big_quiet_op; refine hK _ ?_; clear hK K) | (refine lex_skip' (by exact wanted_g rfl rfl rfl rfl) (fun K hK => ?_); go_simp; refine hK _ ?_; clear hK K)))
  (refine lex_eff (by first | exact wanted_n rfl | exact wanted_g rfl rfl rfl rfl) (by exact rfl) (fun K hK => ?_); go_big_op)
  refine (d_eqModule HZ0.out H184.out.r HQw12.out.r (fun b hb => by have := hb; simp only [Iv] at this; (try simp) <;> omega) (fun b hb => by have := hb; simp only [Iv] at this; (try simp) <;> omega)).mono ?_
  rintro e w13 ⟨rfl, hb13⟩
  have zw13 := hb13.size
  try simp at zw13
  have H192 := Lib.hid (RModule.keep H175.out (w' := w13) (fun p hb => hb13.cell (by have : _ < w.heap.size := hb; (try simp) <;> omega)))
  clear H175
  have H193 := Lib.hid (RWordState.keep H176.out (w' := w13) (fun p hb => hb13.cell (by have : _ < w.heap.size := hb; (try simp) <;> omega)))
  clear H176
  have H194 := Lib.hid (Rep.keep H177.out (w' := w13) (fun p hb => hb13.cell (by have : _ < w.heap.size := hb; (try simp) <;> omega)))
  clear H177
  have H195 := Lib.hid (H178.out.below hb13 H178.out.lt)
  clear H178
  have H196 := Lib.hid (H179.out.below hb13 H179.out.lt)
  clear H179
  have H197 := Lib.hid (QModule.keep H180.out (w' := w13) (fun b hb => hb13.block b (by have := hb; simp only [Iv] at this; (try simp) <;> omega)))
  clear H180
  have H198 := Lib.hid (QWordState.keep H181.out (w' := w13) (fun b hb => hb13.block b (by have := hb; simp only [Iv] at this; (try simp) <;> omega)))
  clear H181
  have H199 := Lib.hid (Sep.keep H182.out (w' := w13) (fun b hb => hb13.block b (by have := hb; simp only [Iv] at this; (try simp) <;> omega)))
  clear H182
  have H200 := Lib.hid (Sep.keep H183.out (w' := w13) (fun b hb => hb13.block b (by have := hb; simp only [Iv] at this; (try simp) <;> omega)))
  clear H183
  have H201 := Lib.hid (QModule.keep H184.out (w' := w13) (fun b hb => hb13.block b (by have := hb; simp only [Iv] at this; (try simp) <;> omega)))
  clear H184
  have H202 := Lib.hid (H185.out.below hb13 H185.out.lt)
  clear H185
  have H203 := Lib.hid (QWordState.keep H186.out (w' := w13) (fun b hb => hb13.block b (by have := hb; simp only [Iv] at this; (try simp) <;> omega)))
  clear H186
  have H204 := Lib.hid (H187.out.below hb13 H187.out.lt)
  clear H187
  have H205 := Lib.hid (Sep.keep H188.out (w' := w13) (fun b hb => hb13.block b (by have := hb; simp only [Iv] at this; (try simp) <;> omega)))
  clear H188
  have H206 := Lib.hid (Sep.keep H189.out (w' := w13) (fun b hb => hb13.block b (by have := hb; simp only [Iv] at this; (try simp) <;> omega)))
  clear H189
  have H207 := Lib.hid (QModule.keep HQw12.out (w' := w13) (fun b hb => hb13.block b (by have := hb; simp only [Iv] at this; (try simp) <;> omega)))
  clear HQw12
  have HB208 := Lib.hid (HB190.out.trans (hb13.mono (by have := HB190.out.size; (try simp) <;> omega)))
  clear HB190
  have HL209 := Lib.hid (HL191.out.trans (hb13.mono HL191.out.size))
  clear HL191
  refine hK _ _ (Cls.mk' HL209.out) ?_
  clear hK K hb13
  (repeat (first | (refine lex_read (by first | exact wanted_n rfl | exact wanted_g rfl rfl rfl rfl) (by exact rfl) (fun K hK => ?_); go_big_quiet_op; refine hK _ ?_; clear hK K) | (refine lex_skip' (by exact wanted_g rfl rfl rfl rfl) (fun K hK => ?_); go_simp; refine hK _ ?_; clear hK K)))
  (refine lex_nil ?_)
  clear lexNE cH152_0 cH152_1 cH152_2 cH152_3 cH145_0 cH145_1 cH145_2 cH145_3
  go_wp2_with fail
  refine wp_region_lexC (by kernel_rfl) (by kernel_rfl) (fun x => Below w13.heap.size w13 x) ((Below.refl _ _).drew) (fun lexNE => ?_)
  obtain ⟨cH204_0, cH204_1⟩ := bwS2 (B := w13.heap.size) H204.out H204.out.lt
  obtain ⟨cH196_0, cH196_1⟩ := bwS2 (B := w13.heap.size) H196.out H196.out.lt
  have HL210 := Lib.hid ((Below.refl w13.heap.size w13).drew)
  have H211 := Lib.hid (RModule.keep H192.out (w' := w13.drew) (fun p hb => rfl))
  clear H192
  have H212 := Lib.hid (RWordState.keep H193.out (w' := w13.drew) (fun p hb => rfl))
  clear H193
  have H213 := Lib.hid (Rep.keep H194.out (w' := w13.drew) (fun p hb => rfl))
  clear H194
  have H214 := Lib.hid (H195.out.drew)
  clear H195
  have H215 := Lib.hid (H196.out.drew)
  clear H196
  have H216 := Lib.hid (QModule.keep H197.out (w' := w13.drew) (fun b hb => rfl))
  clear H197
  have H217 := Lib.hid (QWordState.keep H198.out (w' := w13.drew) (fun b hb => rfl))
  clear H198
  have H218 := Lib.hid (Sep.keep H199.out (w' := w13.drew) (fun b hb => rfl))
  clear H199
  have H219 := Lib.hid (Sep.keep H200.out (w' := w13.drew) (fun b hb => rfl))
  clear H200
  have H220 := Lib.hid (QModule.keep H201.out (w' := w13.drew) (fun b hb => rfl))
  clear H201
  have H221 := Lib.hid (H202.out.drew)
  clear H202
  have H222 := Lib.hid (QWordState.keep H203.out (w' := w13.drew) (fun b hb => rfl))
  clear H203
  have H223 := Lib.hid (H204.out.drew)
  clear H204
  have H224 := Lib.hid (Sep.keep H205.out (w' := w13.drew) (fun b hb => rfl))
  clear H205
  have H225 := Lib.hid (Sep.keep H206.out (w' := w13.drew) (fun b hb => rfl))
  clear H206
  have H226 := Lib.hid (QModule.keep H207.out (w' := w13.drew) (fun b hb => rfl))
  clear H207
  have HB227 := Lib.hid (HB208.out.drew)
  clear HB208
  (repeat (first | (refine lex_read (by first | exact wanted_n rfl | exact wanted_g rfl rfl rfl rfl) (by exact rfl) (fun K hK => ?_); go_big_quiet_op; refine hK _ ?_; clear hK K) | (refine lex_skip' (by exact wanted_g rfl rfl rfl rfl) (fun K hK => ?_); go_simp; refine hK _ ?_; clear hK K)))
  (refine lex_eff (by first | exact wanted_n rfl | exact wanted_g rfl rfl rfl rfl) (by exact rfl) (fun K hK => ?_); go_big_op)
  refine (d_toWordState HZ1.out H212.out (fun b hb => by have : _ < w.heap.size := hb; (try simp) <;> omega)).mono ?_
  rintro e w14 ⟨vw14, rfl, hqw14, hb14⟩
  obtain ⟨Aw14_0, nw14_0, cw14_0, Aw14_1, nw14_1, cw14_1, rfl⟩ := hqw14.r.form
  have HQw14 := Lib.hid (QWordState.mono hqw14 (S' := Iv (w13.heap.size) (w14.heap.size)) (fun b hb => by have := hb; simp [New] at this; exact ⟨by omega, this.2⟩))
  clear hqw14
  have zw14 := hb14.size
  try simp at zw14
  have H228 := Lib.hid (RModule.keep H211.out (w' := w14) (fun p hb => hb14.cell (by have : _ < w.heap.size := hb; (try simp) <;> omega)))
  clear H211
  have H229 := Lib.hid (RWordState.keep H212.out (w' := w14) (fun p hb => hb14.cell (by have : _ < w.heap.size := hb; (try simp) <;> omega)))
  clear H212
  have H230 := Lib.hid (Rep.keep H213.out (w' := w14) (fun p hb => hb14.cell (by have : _ < w.heap.size := hb; (try simp) <;> omega)))
  clear H213
  have H231 := Lib.hid (H214.out.below hb14 H214.out.lt)
  clear H214
  have H232 := Lib.hid (H215.out.below hb14 H215.out.lt)
  clear H215
  have H233 := Lib.hid (QModule.keep H216.out (w' := w14) (fun b hb => hb14.block b (by have := hb; simp only [Iv] at this; (try simp) <;> omega)))
  clear H216
  have H234 := Lib.hid (QWordState.keep H217.out (w' := w14) (fun b hb => hb14.block b (by have := hb; simp only [Iv] at this; (try simp) <;> omega)))
  clear H217
  have H235 := Lib.hid (Sep.keep H218.out (w' := w14) (fun b hb => hb14.block b (by have := hb; simp only [Iv] at this; (try simp) <;> omega)))
  clear H218
  have H236 := Lib.hid (Sep.keep H219.out (w' := w14) (fun b hb => hb14.block b (by have := hb; simp only [Iv] at this; (try simp) <;> omega)))
  clear H219
  have H237 := Lib.hid (QModule.keep H220.out (w' := w14) (fun b hb => hb14.block b (by have := hb; simp only [Iv] at this; (try simp) <;> omega)))
  clear H220
  have H238 := Lib.hid (H221.out.below hb14 H221.out.lt)
  clear H221
  have H239 := Lib.hid (QWordState.keep H222.out (w' := w14) (fun b hb => hb14.block b (by have := hb; simp only [Iv] at this; (try simp) <;> omega)))
  clear H222
  have H240 := Lib.hid (H223.out.below hb14 H223.out.lt)
  clear H223
  have H241 := Lib.hid (Sep.keep H224.out (w' := w14) (fun b hb => hb14.block b (by have := hb; simp only [Iv] at this; (try simp) <;> omega)))
  clear H224
  have H242 := Lib.hid (Sep.keep H225.out (w' := w14) (fun b hb => hb14.block b (by have := hb; simp only [Iv] at this; (try simp) <;> omega)))
  clear H225
  have H243 := Lib.hid (QModule.keep H226.out (w' := w14) (fun b hb => hb14.block b (by have := hb; simp only [Iv] at this; (try simp) <;> omega)))
  clear H226
  have HB244 := Lib.hid (HB227.out.trans (hb14.mono (by have := HB227.out.size; (try simp) <;> omega)))
  clear HB227
  have HL245 := Lib.hid (HL210.out.trans (hb14.mono HL210.out.size))
  clear HL210
  refine hK _ _ (Cls.mk' HL245.out) ?_
  clear hK K hb14
  (repeat (first | (refine lex_read (by first | exact wanted_n rfl | exact wanted_g rfl rfl rfl rfl) (by exact rfl) (fun K hK => ?_); go_big_quiet_op; refine hK _ ?_; clear hK K) | (refine lex_skip' (by exact wanted_g rfl rfl rfl rfl) (fun K hK => ?_); go_simp; refine hK _ ?_; clear hK K)))
  (refine lex_eff (by first | exact wanted_n rfl | exact wanted_g rfl rfl rfl rfl) (by exact rfl) (fun K hK => ?_); go_big_op)
  refine (d_eqWordState HZ1.out H239.out.r HQw14.out.r (fun b hb => by have := hb; simp only [Iv] at this; (try simp) <;> omega) (fun b hb => by have := hb; simp only [Iv] at this; (try simp) <;> omega)).mono ?_
  rintro e w15 ⟨rfl, hb15⟩
  have zw15 := hb15.size
  try simp at zw15
  have H246 := Lib.hid (RModule.keep H228.out (w' := w15) (fun p hb => hb15.cell (by have : _ < w.heap.size := hb; (try simp) <;> omega)))
  clear H228
  have H247 := Lib.hid (RWordState.keep H229.out (w' := w15) (fun p hb => hb15.cell (by have : _ < w.heap.size := hb; (try simp) <;> omega)))
  clear H229
  have H248 := Lib.hid (Rep.keep H230.out (w' := w15) (fun p hb => hb15.cell (by have : _ < w.heap.size := hb; (try simp) <;> omega)))
  clear H230
  have H249 := Lib.hid (H231.out.below hb15 H231.out.lt)
  clear H231
  have H250 := Lib.hid (H232.out.below hb15 H232.out.lt)
  clear H232
  have H251 := Lib.hid (QModule.keep H233.out (w' := w15) (fun b hb => hb15.block b (by have := hb; simp only [Iv] at this; (try simp) <;> omega)))
  clear H233
  have H252 := Lib.hid (QWordState.keep H234.out (w' := w15) (fun b hb => hb15.block b (by have := hb; simp only [Iv] at this; (try simp) <;> omega)))
  clear H234
  have H253 := Lib.hid (Sep.keep H235.out (w' := w15) (fun b hb => hb15.block b (by have := hb; simp only [Iv] at this; (try simp) <;> omega)))
  clear H235
  have H254 := Lib.hid (Sep.keep H236.out (w' := w15) (fun b hb => hb15.block b (by have := hb; simp only [Iv] at this; (try simp) <;> omega)))
  clear H236
  have H255 := Lib.hid (QModule.keep H237.out (w' := w15) (fun b hb => hb15.block b (by have := hb; simp only [Iv] at this; (try simp) <;> omega)))
  clear H237
  have H256 := Lib.hid (H238.out.below hb15 H238.out.lt)
  clear H238
  have H257 := Lib.hid (QWordState.keep H239.out (w' := w15) (fun b hb => hb15.block b (by have := hb; simp only [Iv] at this; (try simp) <;> omega)))
  clear H239
  have H258 := Lib.hid (H240.out.below hb15 H240.out.lt)
  clear H240
  have H259 := Lib.hid (Sep.keep H241.out (w' := w15) (fun b hb => hb15.block b (by have := hb; simp only [Iv] at this; (try simp) <;> omega)))
  clear H241
  have H260 := Lib.hid (Sep.keep H242.out (w' := w15) (fun b hb => hb15.block b (by have := hb; simp only [Iv] at this; (try simp) <;> omega)))
  clear H242
  have H261 := Lib.hid (QModule.keep H243.out (w' := w15) (fun b hb => hb15.block b (by have := hb; simp only [Iv] at this; (try simp) <;> omega)))
  clear H243
  have H262 := Lib.hid (QWordState.keep HQw14.out (w' := w15) (fun b hb => hb15.block b (by have := hb; simp only [Iv] at this; (try simp) <;> omega)))
  clear HQw14
  have HB263 := Lib.hid (HB244.out.trans (hb15.mono (by have := HB244.out.size; (try simp) <;> omega)))
  clear HB244
  have HL264 := Lib.hid (HL245.out.trans (hb15.mono HL245.out.size))
  clear HL245
  refine hK _ _ (Cls.mk' HL264.out) ?_
  clear hK K hb15
  (repeat (first | (refine lex_read (by first | exact wanted_n rfl | exact wanted_g rfl rfl rfl rfl) (by exact rfl) (fun K hK => ?_); go_big_quiet_op; refine hK _ ?_; clear hK K) | (refine lex_skip' (by exact wanted_g rfl rfl rfl rfl) (fun K hK => ?_); go_simp; refine hK _ ?_; clear hK K)))
  (refine lex_nil ?_)
  clear lexNE cH204_0 cH204_1 cH196_0 cH196_1
  go_wp2_with fail
  refine (d_toIntS HZ2.out H248.out (fun b hb => by have : _ < w.heap.size := hb; (try simp) <;> omega)).mono ?_
  rintro e w16 ⟨vw16, rfl, hqw16, hb16⟩
  obtain ⟨Aw16, nw16, cw16, rfl⟩ := slv_of hqw16.rep
  have HQw16 := Lib.hid (Sep.mono hqw16 (S' := Iv (w15.heap.size) (w16.heap.size)) (fun b hb => by have := hb; simp [New] at this; exact ⟨by omega, this.2⟩))
  clear hqw16
  have zw16 := hb16.size
  try simp at zw16
  have H265 := Lib.hid (RModule.keep H246.out (w' := w16) (fun p hb => hb16.cell (by have : _ < w.heap.size := hb; (try simp) <;> omega)))
  clear H246
  have H266 := Lib.hid (RWordState.keep H247.out (w' := w16) (fun p hb => hb16.cell (by have : _ < w.heap.size := hb; (try simp) <;> omega)))
  clear H247
  have H267 := Lib.hid (Rep.keep H248.out (w' := w16) (fun p hb => hb16.cell (by have : _ < w.heap.size := hb; (try simp) <;> omega)))
  clear H248
  have H268 := Lib.hid (H249.out.below hb16 H249.out.lt)
  clear H249
  have H269 := Lib.hid (H250.out.below hb16 H250.out.lt)
  clear H250
  have H270 := Lib.hid (QModule.keep H251.out (w' := w16) (fun b hb => hb16.block b (by have := hb; simp only [Iv] at this; (try simp) <;> omega)))
  clear H251
  have H271 := Lib.hid (QWordState.keep H252.out (w' := w16) (fun b hb => hb16.block b (by have := hb; simp only [Iv] at this; (try simp) <;> omega)))
  clear H252
  have H272 := Lib.hid (Sep.keep H253.out (w' := w16) (fun b hb => hb16.block b (by have := hb; simp only [Iv] at this; (try simp) <;> omega)))
  clear H253
  have H273 := Lib.hid (Sep.keep H254.out (w' := w16) (fun b hb => hb16.block b (by have := hb; simp only [Iv] at this; (try simp) <;> omega)))
  clear H254
  have H274 := Lib.hid (QModule.keep H255.out (w' := w16) (fun b hb => hb16.block b (by have := hb; simp only [Iv] at this; (try simp) <;> omega)))
  clear H255
  have H275 := Lib.hid (H256.out.below hb16 H256.out.lt)
  clear H256
  have H276 := Lib.hid (QWordState.keep H257.out (w' := w16) (fun b hb => hb16.block b (by have := hb; simp only [Iv] at this; (try simp) <;> omega)))
  clear H257
  have H277 := Lib.hid (H258.out.below hb16 H258.out.lt)
  clear H258
  have H278 := Lib.hid (Sep.keep H259.out (w' := w16) (fun b hb => hb16.block b (by have := hb; simp only [Iv] at this; (try simp) <;> omega)))
  clear H259
  have H279 := Lib.hid (Sep.keep H260.out (w' := w16) (fun b hb => hb16.block b (by have := hb; simp only [Iv] at this; (try simp) <;> omega)))
  clear H260
  have H280 := Lib.hid (QModule.keep H261.out (w' := w16) (fun b hb => hb16.block b (by have := hb; simp only [Iv] at this; (try simp) <;> omega)))
  clear H261
  have H281 := Lib.hid (QWordState.keep H262.out (w' := w16) (fun b hb => hb16.block b (by have := hb; simp only [Iv] at this; (try simp) <;> omega)))
  clear H262
  have HB282 := Lib.hid (HB263.out.trans (hb16.mono (by have := HB263.out.size; (try simp) <;> omega)))
  clear HB263
  clear hb16
  go_wp2_with fail
  refine (d_eqIntS HZ2.out H278.out.rep HQw16.out.rep (fun b hb => by have := hb; simp only [Iv] at this; (try simp) <;> omega) (fun b hb => by have := hb; simp only [Iv] at this; (try simp) <;> omega)).mono ?_
  rintro e w17 ⟨rfl, hb17⟩
  have zw17 := hb17.size
  try simp at zw17
  have H283 := Lib.hid (RModule.keep H265.out (w' := w17) (fun p hb => hb17.cell (by have : _ < w.heap.size := hb; (try simp) <;> omega)))
  clear H265
  have H284 := Lib.hid (RWordState.keep H266.out (w' := w17) (fun p hb => hb17.cell (by have : _ < w.heap.size := hb; (try simp) <;> omega)))
  clear H266
  have H285 := Lib.hid (Rep.keep H267.out (w' := w17) (fun p hb => hb17.cell (by have : _ < w.heap.size := hb; (try simp) <;> omega)))
  clear H267
  have H286 := Lib.hid (H268.out.below hb17 H268.out.lt)
  clear H268
  have H287 := Lib.hid (H269.out.below hb17 H269.out.lt)
  clear H269
  have H288 := Lib.hid (QModule.keep H270.out (w' := w17) (fun b hb => hb17.block b (by have := hb; simp only [Iv] at this; (try simp) <;> omega)))
  clear H270
  have H289 := Lib.hid (QWordState.keep H271.out (w' := w17) (fun b hb => hb17.block b (by have := hb; simp only [Iv] at this; (try simp) <;> omega)))
  clear H271
  have H290 := Lib.hid (Sep.keep H272.out (w' := w17) (fun b hb => hb17.block b (by have := hb; simp only [Iv] at this; (try simp) <;> omega)))
  clear H272
  have H291 := Lib.hid (Sep.keep H273.out (w' := w17) (fun b hb => hb17.block b (by have := hb; simp only [Iv] at this; (try simp) <;> omega)))
  clear H273
  have H292 := Lib.hid (QModule.keep H274.out (w' := w17) (fun b hb => hb17.block b (by have := hb; simp only [Iv] at this; (try simp) <;> omega)))
  clear H274
  have H293 := Lib.hid (H275.out.below hb17 H275.out.lt)
  clear H275
  have H294 := Lib.hid (QWordState.keep H276.out (w' := w17) (fun b hb => hb17.block b (by have := hb; simp only [Iv] at this; (try simp) <;> omega)))
  clear H276
  have H295 := Lib.hid (H277.out.below hb17 H277.out.lt)
  clear H277
  have H296 := Lib.hid (Sep.keep H278.out (w' := w17) (fun b hb => hb17.block b (by have := hb; simp only [Iv] at this; (try simp) <;> omega)))
  clear H278
  have H297 := Lib.hid (Sep.keep H279.out (w' := w17) (fun b hb => hb17.block b (by have := hb; simp only [Iv] at this; (try simp) <;> omega)))
  clear H279
  have H298 := Lib.hid (QModule.keep H280.out (w' := w17) (fun b hb => hb17.block b (by have := hb; simp only [Iv] at this; (try simp) <;> omega)))
  clear H280
  have H299 := Lib.hid (QWordState.keep H281.out (w' := w17) (fun b hb => hb17.block b (by have := hb; simp only [Iv] at this; (try simp) <;> omega)))
  clear H281
  have H300 := Lib.hid (Sep.keep HQw16.out (w' := w17) (fun b hb => hb17.block b (by have := hb; simp only [Iv] at this; (try simp) <;> omega)))
  clear HQw16
  have HB301 := Lib.hid (HB282.out.trans (hb17.mono (by have := HB282.out.size; (try simp) <;> omega)))
  clear HB282
  clear hb17
  obtain ⟨yH293_0, yH293_1, yH293_2, yH293_3⟩ := blkS4 H293.out
  go_wp2_with fail
  have hmb302 : nModule m ≤ 8388608 := by have h1 := nModule_le m; have h2 : sModule m ≤ 1048576 := HZ0.out; omega
  refine (d_markModule (1) (by omega) H292.out (fun b hb => by have := hb; simp only [Iv] at this; (try simp) <;> omega)).mono ?_
  rintro e w18 ⟨rfl, hqw18, hb18⟩
  obtain ⟨mk303, hmk303⟩ : ∃ zz, zz = 1 + nModule m := ⟨_, rfl⟩
  rw [← hmk303]
  have hmk303b : mk303 ≤ 8388609 := by omega
  have HMmk303 := Lib.hid hmk303
  clear hmk303 hmb302
  clear H292
  have zw18 := hb18.size
  try simp at zw18
  have H304 := Lib.hid (RModule.keep H283.out (w' := w18) (fun p hb => hb18.cell (by have : _ < w.heap.size := hb; (try simp) <;> omega) (fun hc => by have := hb; simp only [Iv] at hc; omega)))
  clear H283
  have H305 := Lib.hid (RWordState.keep H284.out (w' := w18) (fun p hb => hb18.cell (by have : _ < w.heap.size := hb; (try simp) <;> omega) (fun hc => by have := hb; simp only [Iv] at hc; omega)))
  clear H284
  have H306 := Lib.hid (Rep.keep H285.out (w' := w18) (fun p hb => hb18.cell (by have : _ < w.heap.size := hb; (try simp) <;> omega) (fun hc => by have := hb; simp only [Iv] at hc; omega)))
  clear H285
  have H307 := Lib.hid (hb18.blk H286.out (fun hc => by simp only [Iv] at hc; (try simp at hc) <;> omega))
  clear H286
  have H308 := Lib.hid (hb18.blk H287.out (fun hc => by simp only [Iv] at hc; (try simp at hc) <;> omega))
  clear H287
  have H309 := Lib.hid (QModule.keep H288.out (w' := w18) (fun b hb => hb18.block b (by have := hb; simp only [Iv] at this; (try simp) <;> omega) (fun hc => by have := hb; simp only [Iv] at this; simp only [Iv] at hc; omega)))
  clear H288
  have H310 := Lib.hid (QWordState.keep H289.out (w' := w18) (fun b hb => hb18.block b (by have := hb; simp only [Iv] at this; (try simp) <;> omega) (fun hc => by have := hb; simp only [Iv] at this; simp only [Iv] at hc; omega)))
  clear H289
  have H311 := Lib.hid (Sep.keep H290.out (w' := w18) (fun b hb => hb18.block b (by have := hb; simp only [Iv] at this; (try simp) <;> omega) (fun hc => by have := hb; simp only [Iv] at this; simp only [Iv] at hc; omega)))
  clear H290
  have H312 := Lib.hid (Sep.keep H291.out (w' := w18) (fun b hb => hb18.block b (by have := hb; simp only [Iv] at this; (try simp) <;> omega) (fun hc => by have := hb; simp only [Iv] at this; simp only [Iv] at hc; omega)))
  clear H291
  have H313 := Lib.hid (hb18.blk H293.out (fun hc => by simp only [Iv] at hc; (try simp at hc) <;> omega))
  clear H293
  have H314 := Lib.hid (QWordState.keep H294.out (w' := w18) (fun b hb => hb18.block b (by have := hb; simp only [Iv] at this; (try simp) <;> omega) (fun hc => by have := hb; simp only [Iv] at this; simp only [Iv] at hc; omega)))
  clear H294
  have H315 := Lib.hid (hb18.blk H295.out (fun hc => by simp only [Iv] at hc; (try simp at hc) <;> omega))
  clear H295
  have H316 := Lib.hid (Sep.keep H296.out (w' := w18) (fun b hb => hb18.block b (by have := hb; simp only [Iv] at this; (try simp) <;> omega) (fun hc => by have := hb; simp only [Iv] at this; simp only [Iv] at hc; omega)))
  clear H296
  have H317 := Lib.hid (Sep.keep H297.out (w' := w18) (fun b hb => hb18.block b (by have := hb; simp only [Iv] at this; (try simp) <;> omega) (fun hc => by have := hb; simp only [Iv] at this; simp only [Iv] at hc; omega)))
  clear H297
  have H318 := Lib.hid (QModule.keep H298.out (w' := w18) (fun b hb => hb18.block b (by have := hb; simp only [Iv] at this; (try simp) <;> omega) (fun hc => by have := hb; simp only [Iv] at this; simp only [Iv] at hc; omega)))
  clear H298
  have H319 := Lib.hid (QWordState.keep H299.out (w' := w18) (fun b hb => hb18.block b (by have := hb; simp only [Iv] at this; (try simp) <;> omega) (fun hc => by have := hb; simp only [Iv] at this; simp only [Iv] at hc; omega)))
  clear H299
  have H320 := Lib.hid (Sep.keep H300.out (w' := w18) (fun b hb => hb18.block b (by have := hb; simp only [Iv] at this; (try simp) <;> omega) (fun hc => by have := hb; simp only [Iv] at this; simp only [Iv] at hc; omega)))
  clear H300
  have HB321 := Lib.hid (HB301.out.trans (hb18.below (by have := HB301.out.size; (try simp) <;> omega) (fun b hb => by simp only [Iv] at hb; omega)))
  clear HB301
  clear hb18
  have HQw18 := Lib.hid hqw18
  clear hqw18
  clear yH293_0 yH293_1 yH293_2 yH293_3
  obtain ⟨yH315_0, yH315_1⟩ := blkS2 H315.out
  go_wp2_with fail
  have hmb322 : nWordState st ≤ 8388608 := by have h1 := nWordState_le st; have h2 : sWordState st ≤ 1048576 := HZ1.out; omega
  refine (d_markWordState (mk303) (by omega) H314.out (fun b hb => by have := hb; simp only [Iv] at this; (try simp) <;> omega)).mono ?_
  rintro e w19 ⟨rfl, hqw19, hb19⟩
  obtain ⟨mk323, hmk323⟩ : ∃ zz, zz = mk303 + nWordState st := ⟨_, rfl⟩
  rw [← hmk323]
  have hmk323b : mk323 ≤ 16777217 := by omega
  have HMmk323 := Lib.hid hmk323
  clear hmk323 hmb322
  clear H314
  have zw19 := hb19.size
  try simp at zw19
  have H324 := Lib.hid (RModule.keep H304.out (w' := w19) (fun p hb => hb19.cell (by have : _ < w.heap.size := hb; (try simp) <;> omega) (fun hc => by have := hb; simp only [Iv] at hc; omega)))
  clear H304
  have H325 := Lib.hid (RWordState.keep H305.out (w' := w19) (fun p hb => hb19.cell (by have : _ < w.heap.size := hb; (try simp) <;> omega) (fun hc => by have := hb; simp only [Iv] at hc; omega)))
  clear H305
  have H326 := Lib.hid (Rep.keep H306.out (w' := w19) (fun p hb => hb19.cell (by have : _ < w.heap.size := hb; (try simp) <;> omega) (fun hc => by have := hb; simp only [Iv] at hc; omega)))
  clear H306
  have H327 := Lib.hid (hb19.blk H307.out (fun hc => by simp only [Iv] at hc; (try simp at hc) <;> omega))
  clear H307
  have H328 := Lib.hid (hb19.blk H308.out (fun hc => by simp only [Iv] at hc; (try simp at hc) <;> omega))
  clear H308
  have H329 := Lib.hid (QModule.keep H309.out (w' := w19) (fun b hb => hb19.block b (by have := hb; simp only [Iv] at this; (try simp) <;> omega) (fun hc => by have := hb; simp only [Iv] at this; simp only [Iv] at hc; omega)))
  clear H309
  have H330 := Lib.hid (QWordState.keep H310.out (w' := w19) (fun b hb => hb19.block b (by have := hb; simp only [Iv] at this; (try simp) <;> omega) (fun hc => by have := hb; simp only [Iv] at this; simp only [Iv] at hc; omega)))
  clear H310
  have H331 := Lib.hid (Sep.keep H311.out (w' := w19) (fun b hb => hb19.block b (by have := hb; simp only [Iv] at this; (try simp) <;> omega) (fun hc => by have := hb; simp only [Iv] at this; simp only [Iv] at hc; omega)))
  clear H311
  have H332 := Lib.hid (Sep.keep H312.out (w' := w19) (fun b hb => hb19.block b (by have := hb; simp only [Iv] at this; (try simp) <;> omega) (fun hc => by have := hb; simp only [Iv] at this; simp only [Iv] at hc; omega)))
  clear H312
  have H333 := Lib.hid (hb19.blk H313.out (fun hc => by simp only [Iv] at hc; (try simp at hc) <;> omega))
  clear H313
  have H334 := Lib.hid (hb19.blk H315.out (fun hc => by simp only [Iv] at hc; (try simp at hc) <;> omega))
  clear H315
  have H335 := Lib.hid (Sep.keep H316.out (w' := w19) (fun b hb => hb19.block b (by have := hb; simp only [Iv] at this; (try simp) <;> omega) (fun hc => by have := hb; simp only [Iv] at this; simp only [Iv] at hc; omega)))
  clear H316
  have H336 := Lib.hid (Sep.keep H317.out (w' := w19) (fun b hb => hb19.block b (by have := hb; simp only [Iv] at this; (try simp) <;> omega) (fun hc => by have := hb; simp only [Iv] at this; simp only [Iv] at hc; omega)))
  clear H317
  have H337 := Lib.hid (QModule.keep H318.out (w' := w19) (fun b hb => hb19.block b (by have := hb; simp only [Iv] at this; (try simp) <;> omega) (fun hc => by have := hb; simp only [Iv] at this; simp only [Iv] at hc; omega)))
  clear H318
  have H338 := Lib.hid (QWordState.keep H319.out (w' := w19) (fun b hb => hb19.block b (by have := hb; simp only [Iv] at this; (try simp) <;> omega) (fun hc => by have := hb; simp only [Iv] at this; simp only [Iv] at hc; omega)))
  clear H319
  have H339 := Lib.hid (Sep.keep H320.out (w' := w19) (fun b hb => hb19.block b (by have := hb; simp only [Iv] at this; (try simp) <;> omega) (fun hc => by have := hb; simp only [Iv] at this; simp only [Iv] at hc; omega)))
  clear H320
  have H340 := Lib.hid (QModule.keep HQw18.out (w' := w19) (fun b hb => hb19.block b (by have := hb; simp only [Iv] at this; (try simp) <;> omega) (fun hc => by have := hb; simp only [Iv] at this; simp only [Iv] at hc; omega)))
  clear HQw18
  have HB341 := Lib.hid (HB321.out.trans (hb19.below (by have := HB321.out.size; (try simp) <;> omega) (fun b hb => by simp only [Iv] at hb; omega)))
  clear HB321
  clear hb19
  have HQw19 := Lib.hid hqw19
  clear hqw19
  clear yH315_0 yH315_1
  go_wp2_with fail
  have hmb342 : nuL nInt ins ≤ 8388608 := by have h1 := nuL_Int_le ins; have h2 : szL sInt ins ≤ 1048576 := HZ2.out; omega
  refine (d_markIntS (mk323) (by omega) H335.out (fun b hb => by have := hb; simp only [Iv] at this; (try simp) <;> omega)).mono ?_
  rintro e w20 ⟨rfl, hqw20, hb20⟩
  obtain ⟨mk343, hmk343⟩ : ∃ zz, zz = mk323 + nuL nInt ins := ⟨_, rfl⟩
  rw [← hmk343]
  have hmk343b : mk343 ≤ 25165825 := by omega
  have HMmk343 := Lib.hid hmk343
  clear hmk343 hmb342
  clear H335
  have zw20 := hb20.size
  try simp at zw20
  have H344 := Lib.hid (RModule.keep H324.out (w' := w20) (fun p hb => hb20.cell (by have : _ < w.heap.size := hb; (try simp) <;> omega) (fun hc => by have := hb; simp only [Iv] at hc; omega)))
  clear H324
  have H345 := Lib.hid (RWordState.keep H325.out (w' := w20) (fun p hb => hb20.cell (by have : _ < w.heap.size := hb; (try simp) <;> omega) (fun hc => by have := hb; simp only [Iv] at hc; omega)))
  clear H325
  have H346 := Lib.hid (Rep.keep H326.out (w' := w20) (fun p hb => hb20.cell (by have : _ < w.heap.size := hb; (try simp) <;> omega) (fun hc => by have := hb; simp only [Iv] at hc; omega)))
  clear H326
  have H347 := Lib.hid (hb20.blk H327.out (fun hc => by simp only [Iv] at hc; (try simp at hc) <;> omega))
  clear H327
  have H348 := Lib.hid (hb20.blk H328.out (fun hc => by simp only [Iv] at hc; (try simp at hc) <;> omega))
  clear H328
  have H349 := Lib.hid (QModule.keep H329.out (w' := w20) (fun b hb => hb20.block b (by have := hb; simp only [Iv] at this; (try simp) <;> omega) (fun hc => by have := hb; simp only [Iv] at this; simp only [Iv] at hc; omega)))
  clear H329
  have H350 := Lib.hid (QWordState.keep H330.out (w' := w20) (fun b hb => hb20.block b (by have := hb; simp only [Iv] at this; (try simp) <;> omega) (fun hc => by have := hb; simp only [Iv] at this; simp only [Iv] at hc; omega)))
  clear H330
  have H351 := Lib.hid (Sep.keep H331.out (w' := w20) (fun b hb => hb20.block b (by have := hb; simp only [Iv] at this; (try simp) <;> omega) (fun hc => by have := hb; simp only [Iv] at this; simp only [Iv] at hc; omega)))
  clear H331
  have H352 := Lib.hid (Sep.keep H332.out (w' := w20) (fun b hb => hb20.block b (by have := hb; simp only [Iv] at this; (try simp) <;> omega) (fun hc => by have := hb; simp only [Iv] at this; simp only [Iv] at hc; omega)))
  clear H332
  have H353 := Lib.hid (hb20.blk H333.out (fun hc => by simp only [Iv] at hc; (try simp at hc) <;> omega))
  clear H333
  have H354 := Lib.hid (hb20.blk H334.out (fun hc => by simp only [Iv] at hc; (try simp at hc) <;> omega))
  clear H334
  have H355 := Lib.hid (Sep.keep H336.out (w' := w20) (fun b hb => hb20.block b (by have := hb; simp only [Iv] at this; (try simp) <;> omega) (fun hc => by have := hb; simp only [Iv] at this; simp only [Iv] at hc; omega)))
  clear H336
  have H356 := Lib.hid (QModule.keep H337.out (w' := w20) (fun b hb => hb20.block b (by have := hb; simp only [Iv] at this; (try simp) <;> omega) (fun hc => by have := hb; simp only [Iv] at this; simp only [Iv] at hc; omega)))
  clear H337
  have H357 := Lib.hid (QWordState.keep H338.out (w' := w20) (fun b hb => hb20.block b (by have := hb; simp only [Iv] at this; (try simp) <;> omega) (fun hc => by have := hb; simp only [Iv] at this; simp only [Iv] at hc; omega)))
  clear H338
  have H358 := Lib.hid (Sep.keep H339.out (w' := w20) (fun b hb => hb20.block b (by have := hb; simp only [Iv] at this; (try simp) <;> omega) (fun hc => by have := hb; simp only [Iv] at this; simp only [Iv] at hc; omega)))
  clear H339
  have H359 := Lib.hid (QModule.keep H340.out (w' := w20) (fun b hb => hb20.block b (by have := hb; simp only [Iv] at this; (try simp) <;> omega) (fun hc => by have := hb; simp only [Iv] at this; simp only [Iv] at hc; omega)))
  clear H340
  have H360 := Lib.hid (QWordState.keep HQw19.out (w' := w20) (fun b hb => hb20.block b (by have := hb; simp only [Iv] at this; (try simp) <;> omega) (fun hc => by have := hb; simp only [Iv] at this; simp only [Iv] at hc; omega)))
  clear HQw19
  have HB361 := Lib.hid (HB341.out.trans (hb20.below (by have := HB341.out.size; (try simp) <;> omega) (fun b hb => by simp only [Iv] at hb; omega)))
  clear HB341
  clear hb20
  have HQw20 := Lib.hid hqw20
  clear hqw20
  go_wp2_with fail
  refine (d_eqIntS (sigL_sz m st ins) H355.out.rep H352.out.rep (fun b hb => by have := hb; simp only [Iv] at this; (try simp) <;> omega) (fun b hb => by have := hb; simp only [Iv] at this; (try simp) <;> omega)).mono ?_
  rintro e w21 ⟨rfl, hb21⟩
  have zw21 := hb21.size
  try simp at zw21
  have H362 := Lib.hid (RModule.keep H344.out (w' := w21) (fun p hb => hb21.cell (by have : _ < w.heap.size := hb; (try simp) <;> omega)))
  clear H344
  have H363 := Lib.hid (RWordState.keep H345.out (w' := w21) (fun p hb => hb21.cell (by have : _ < w.heap.size := hb; (try simp) <;> omega)))
  clear H345
  have H364 := Lib.hid (Rep.keep H346.out (w' := w21) (fun p hb => hb21.cell (by have : _ < w.heap.size := hb; (try simp) <;> omega)))
  clear H346
  have H365 := Lib.hid (H347.out.below hb21 H347.out.lt)
  clear H347
  have H366 := Lib.hid (H348.out.below hb21 H348.out.lt)
  clear H348
  have H367 := Lib.hid (QModule.keep H349.out (w' := w21) (fun b hb => hb21.block b (by have := hb; simp only [Iv] at this; (try simp) <;> omega)))
  clear H349
  have H368 := Lib.hid (QWordState.keep H350.out (w' := w21) (fun b hb => hb21.block b (by have := hb; simp only [Iv] at this; (try simp) <;> omega)))
  clear H350
  have H369 := Lib.hid (Sep.keep H351.out (w' := w21) (fun b hb => hb21.block b (by have := hb; simp only [Iv] at this; (try simp) <;> omega)))
  clear H351
  have H370 := Lib.hid (Sep.keep H352.out (w' := w21) (fun b hb => hb21.block b (by have := hb; simp only [Iv] at this; (try simp) <;> omega)))
  clear H352
  have H371 := Lib.hid (H353.out.below hb21 H353.out.lt)
  clear H353
  have H372 := Lib.hid (H354.out.below hb21 H354.out.lt)
  clear H354
  have H373 := Lib.hid (Sep.keep H355.out (w' := w21) (fun b hb => hb21.block b (by have := hb; simp only [Iv] at this; (try simp) <;> omega)))
  clear H355
  have H374 := Lib.hid (QModule.keep H356.out (w' := w21) (fun b hb => hb21.block b (by have := hb; simp only [Iv] at this; (try simp) <;> omega)))
  clear H356
  have H375 := Lib.hid (QWordState.keep H357.out (w' := w21) (fun b hb => hb21.block b (by have := hb; simp only [Iv] at this; (try simp) <;> omega)))
  clear H357
  have H376 := Lib.hid (Sep.keep H358.out (w' := w21) (fun b hb => hb21.block b (by have := hb; simp only [Iv] at this; (try simp) <;> omega)))
  clear H358
  have H377 := Lib.hid (QModule.keep H359.out (w' := w21) (fun b hb => hb21.block b (by have := hb; simp only [Iv] at this; (try simp) <;> omega)))
  clear H359
  have H378 := Lib.hid (QWordState.keep H360.out (w' := w21) (fun b hb => hb21.block b (by have := hb; simp only [Iv] at this; (try simp) <;> omega)))
  clear H360
  have H379 := Lib.hid (Sep.keep HQw20.out (w' := w21) (fun b hb => hb21.block b (by have := hb; simp only [Iv] at this; (try simp) <;> omega)))
  clear HQw20
  have HB380 := Lib.hid (HB361.out.trans (hb21.mono (by have := HB361.out.size; (try simp) <;> omega)))
  clear HB361
  clear hb21
  go_wp2_with fail
  have hmb381 : nuL nInt (sigL m st ins) ≤ 8388608 := by have h1 := nuL_Int_le (sigL m st ins); have h2 : szL sInt (sigL m st ins) ≤ 1048576 := sigL_sz m st ins; omega
  refine (d_markIntS (1) (by omega) H373.out (fun b hb => by have := hb; simp only [Iv] at this; (try simp) <;> omega)).mono ?_
  rintro e w22 ⟨rfl, hqw22, hb22⟩
  obtain ⟨mk382, hmk382⟩ : ∃ zz, zz = 1 + nuL nInt (sigL m st ins) := ⟨_, rfl⟩
  rw [← hmk382]
  have hmk382b : mk382 ≤ 33554433 := by omega
  have HMmk382 := Lib.hid hmk382
  clear hmk382 hmb381
  clear H373
  have zw22 := hb22.size
  try simp at zw22
  have H383 := Lib.hid (RModule.keep H362.out (w' := w22) (fun p hb => hb22.cell (by have : _ < w.heap.size := hb; (try simp) <;> omega) (fun hc => by have := hb; simp only [Iv] at hc; omega)))
  clear H362
  have H384 := Lib.hid (RWordState.keep H363.out (w' := w22) (fun p hb => hb22.cell (by have : _ < w.heap.size := hb; (try simp) <;> omega) (fun hc => by have := hb; simp only [Iv] at hc; omega)))
  clear H363
  have H385 := Lib.hid (Rep.keep H364.out (w' := w22) (fun p hb => hb22.cell (by have : _ < w.heap.size := hb; (try simp) <;> omega) (fun hc => by have := hb; simp only [Iv] at hc; omega)))
  clear H364
  have H386 := Lib.hid (hb22.blk H365.out (fun hc => by simp only [Iv] at hc; (try simp at hc) <;> omega))
  clear H365
  have H387 := Lib.hid (hb22.blk H366.out (fun hc => by simp only [Iv] at hc; (try simp at hc) <;> omega))
  clear H366
  have H388 := Lib.hid (QModule.keep H367.out (w' := w22) (fun b hb => hb22.block b (by have := hb; simp only [Iv] at this; (try simp) <;> omega) (fun hc => by have := hb; simp only [Iv] at this; simp only [Iv] at hc; omega)))
  clear H367
  have H389 := Lib.hid (QWordState.keep H368.out (w' := w22) (fun b hb => hb22.block b (by have := hb; simp only [Iv] at this; (try simp) <;> omega) (fun hc => by have := hb; simp only [Iv] at this; simp only [Iv] at hc; omega)))
  clear H368
  have H390 := Lib.hid (Sep.keep H369.out (w' := w22) (fun b hb => hb22.block b (by have := hb; simp only [Iv] at this; (try simp) <;> omega) (fun hc => by have := hb; simp only [Iv] at this; simp only [Iv] at hc; omega)))
  clear H369
  have H391 := Lib.hid (Sep.keep H370.out (w' := w22) (fun b hb => hb22.block b (by have := hb; simp only [Iv] at this; (try simp) <;> omega) (fun hc => by have := hb; simp only [Iv] at this; simp only [Iv] at hc; omega)))
  clear H370
  have H392 := Lib.hid (hb22.blk H371.out (fun hc => by simp only [Iv] at hc; (try simp at hc) <;> omega))
  clear H371
  have H393 := Lib.hid (hb22.blk H372.out (fun hc => by simp only [Iv] at hc; (try simp at hc) <;> omega))
  clear H372
  have H394 := Lib.hid (QModule.keep H374.out (w' := w22) (fun b hb => hb22.block b (by have := hb; simp only [Iv] at this; (try simp) <;> omega) (fun hc => by have := hb; simp only [Iv] at this; simp only [Iv] at hc; omega)))
  clear H374
  have H395 := Lib.hid (QWordState.keep H375.out (w' := w22) (fun b hb => hb22.block b (by have := hb; simp only [Iv] at this; (try simp) <;> omega) (fun hc => by have := hb; simp only [Iv] at this; simp only [Iv] at hc; omega)))
  clear H375
  have H396 := Lib.hid (Sep.keep H376.out (w' := w22) (fun b hb => hb22.block b (by have := hb; simp only [Iv] at this; (try simp) <;> omega) (fun hc => by have := hb; simp only [Iv] at this; simp only [Iv] at hc; omega)))
  clear H376
  have H397 := Lib.hid (QModule.keep H377.out (w' := w22) (fun b hb => hb22.block b (by have := hb; simp only [Iv] at this; (try simp) <;> omega) (fun hc => by have := hb; simp only [Iv] at this; simp only [Iv] at hc; omega)))
  clear H377
  have H398 := Lib.hid (QWordState.keep H378.out (w' := w22) (fun b hb => hb22.block b (by have := hb; simp only [Iv] at this; (try simp) <;> omega) (fun hc => by have := hb; simp only [Iv] at this; simp only [Iv] at hc; omega)))
  clear H378
  have H399 := Lib.hid (Sep.keep H379.out (w' := w22) (fun b hb => hb22.block b (by have := hb; simp only [Iv] at this; (try simp) <;> omega) (fun hc => by have := hb; simp only [Iv] at this; simp only [Iv] at hc; omega)))
  clear H379
  have HB400 := Lib.hid (HB380.out.trans (hb22.below (by have := HB380.out.size; (try simp) <;> omega) (fun b hb => by simp only [Iv] at hb; omega)))
  clear HB380
  clear hb22
  have HQw22 := Lib.hid hqw22
  clear hqw22
  go_wp2_with fail
  have hmb401 : 1 + nuL nInt (sigL m st ins) ≤ 1099511627776 := by rw [← HMmk382.out]; omega
  refine (d_heldIntS (1) (by omega) HQw22.out.rep (fun b hb => by have := hb; simp only [Iv] at this; (try simp) <;> omega)).mono ?_
  rintro e w23 ⟨rfl, hb23⟩
  rw [← HMmk382.out]
  clear hmb401
  have zw23 := hb23.size
  try simp at zw23
  have H402 := Lib.hid (RModule.keep H383.out (w' := w23) (fun p hb => hb23.cell (by have : _ < w.heap.size := hb; (try simp) <;> omega)))
  clear H383
  have H403 := Lib.hid (RWordState.keep H384.out (w' := w23) (fun p hb => hb23.cell (by have : _ < w.heap.size := hb; (try simp) <;> omega)))
  clear H384
  have H404 := Lib.hid (Rep.keep H385.out (w' := w23) (fun p hb => hb23.cell (by have : _ < w.heap.size := hb; (try simp) <;> omega)))
  clear H385
  have H405 := Lib.hid (H386.out.below hb23 H386.out.lt)
  clear H386
  have H406 := Lib.hid (H387.out.below hb23 H387.out.lt)
  clear H387
  have H407 := Lib.hid (QModule.keep H388.out (w' := w23) (fun b hb => hb23.block b (by have := hb; simp only [Iv] at this; (try simp) <;> omega)))
  clear H388
  have H408 := Lib.hid (QWordState.keep H389.out (w' := w23) (fun b hb => hb23.block b (by have := hb; simp only [Iv] at this; (try simp) <;> omega)))
  clear H389
  have H409 := Lib.hid (Sep.keep H390.out (w' := w23) (fun b hb => hb23.block b (by have := hb; simp only [Iv] at this; (try simp) <;> omega)))
  clear H390
  have H410 := Lib.hid (Sep.keep H391.out (w' := w23) (fun b hb => hb23.block b (by have := hb; simp only [Iv] at this; (try simp) <;> omega)))
  clear H391
  have H411 := Lib.hid (H392.out.below hb23 H392.out.lt)
  clear H392
  have H412 := Lib.hid (H393.out.below hb23 H393.out.lt)
  clear H393
  have H413 := Lib.hid (QModule.keep H394.out (w' := w23) (fun b hb => hb23.block b (by have := hb; simp only [Iv] at this; (try simp) <;> omega)))
  clear H394
  have H414 := Lib.hid (QWordState.keep H395.out (w' := w23) (fun b hb => hb23.block b (by have := hb; simp only [Iv] at this; (try simp) <;> omega)))
  clear H395
  have H415 := Lib.hid (Sep.keep H396.out (w' := w23) (fun b hb => hb23.block b (by have := hb; simp only [Iv] at this; (try simp) <;> omega)))
  clear H396
  have H416 := Lib.hid (QModule.keep H397.out (w' := w23) (fun b hb => hb23.block b (by have := hb; simp only [Iv] at this; (try simp) <;> omega)))
  clear H397
  have H417 := Lib.hid (QWordState.keep H398.out (w' := w23) (fun b hb => hb23.block b (by have := hb; simp only [Iv] at this; (try simp) <;> omega)))
  clear H398
  have H418 := Lib.hid (Sep.keep H399.out (w' := w23) (fun b hb => hb23.block b (by have := hb; simp only [Iv] at this; (try simp) <;> omega)))
  clear H399
  have H419 := Lib.hid (Sep.keep HQw22.out (w' := w23) (fun b hb => hb23.block b (by have := hb; simp only [Iv] at this; (try simp) <;> omega)))
  clear HQw22
  have HB420 := Lib.hid (HB400.out.trans (hb23.mono (by have := HB400.out.size; (try simp) <;> omega)))
  clear HB400
  clear hb23
  go_wp2_with fail
  refine wp_region_lexC (by kernel_rfl) (by kernel_rfl) (fun x => Below w23.heap.size w23 x) ((Below.refl _ _).drew) (fun lexNE => ?_)
  obtain ⟨cH405_0, cH405_1, cH405_2, cH405_3⟩ := bwS4 (B := w23.heap.size) H405.out H405.out.lt
  obtain ⟨cH406_0, cH406_1⟩ := bwS2 (B := w23.heap.size) H406.out H406.out.lt
  have HL421 := Lib.hid ((Below.refl w23.heap.size w23).drew)
  have H422 := Lib.hid (RModule.keep H402.out (w' := w23.drew) (fun p hb => rfl))
  clear H402
  have H423 := Lib.hid (RWordState.keep H403.out (w' := w23.drew) (fun p hb => rfl))
  clear H403
  have H424 := Lib.hid (Rep.keep H404.out (w' := w23.drew) (fun p hb => rfl))
  clear H404
  have H425 := Lib.hid (H405.out.drew)
  clear H405
  have H426 := Lib.hid (H406.out.drew)
  clear H406
  have H427 := Lib.hid (QModule.keep H407.out (w' := w23.drew) (fun b hb => rfl))
  clear H407
  have H428 := Lib.hid (QWordState.keep H408.out (w' := w23.drew) (fun b hb => rfl))
  clear H408
  have H429 := Lib.hid (Sep.keep H409.out (w' := w23.drew) (fun b hb => rfl))
  clear H409
  have H430 := Lib.hid (Sep.keep H410.out (w' := w23.drew) (fun b hb => rfl))
  clear H410
  have H431 := Lib.hid (H411.out.drew)
  clear H411
  have H432 := Lib.hid (H412.out.drew)
  clear H412
  have H433 := Lib.hid (QModule.keep H413.out (w' := w23.drew) (fun b hb => rfl))
  clear H413
  have H434 := Lib.hid (QWordState.keep H414.out (w' := w23.drew) (fun b hb => rfl))
  clear H414
  have H435 := Lib.hid (Sep.keep H415.out (w' := w23.drew) (fun b hb => rfl))
  clear H415
  have H436 := Lib.hid (QModule.keep H416.out (w' := w23.drew) (fun b hb => rfl))
  clear H416
  have H437 := Lib.hid (QWordState.keep H417.out (w' := w23.drew) (fun b hb => rfl))
  clear H417
  have H438 := Lib.hid (Sep.keep H418.out (w' := w23.drew) (fun b hb => rfl))
  clear H418
  have H439 := Lib.hid (Sep.keep H419.out (w' := w23.drew) (fun b hb => rfl))
  clear H419
  have HB440 := Lib.hid (HB420.out.drew)
  clear HB420
  (repeat (first | (refine lex_read (by first | exact wanted_n rfl | exact wanted_g rfl rfl rfl rfl) (by exact rfl) (fun K hK => ?_); go_big_quiet_op; refine hK _ ?_; clear hK K) | (refine lex_skip' (by exact wanted_g rfl rfl rfl rfl) (fun K hK => ?_); go_simp; refine hK _ ?_; clear hK K)))
  (refine lex_eff (by first | exact wanted_n rfl | exact wanted_g rfl rfl rfl rfl) (by exact rfl) (fun K hK => ?_); go_big_op)
  refine (d_toModule HZ0.out H422.out (fun b hb => by have : _ < w.heap.size := hb; (try simp) <;> omega)).mono ?_
  rintro e w24 ⟨vw24, rfl, hqw24, hb24⟩
  obtain ⟨Aw24_0, nw24_0, cw24_0, Aw24_1, nw24_1, cw24_1, Aw24_2, nw24_2, cw24_2, Aw24_3, nw24_3, cw24_3, rfl⟩ := hqw24.r.form
  have HQw24 := Lib.hid (QModule.mono hqw24 (S' := Iv (w23.heap.size) (w24.heap.size)) (fun b hb => by have := hb; simp [New] at this; exact ⟨by omega, this.2⟩))
  clear hqw24
  have zw24 := hb24.size
  try simp at zw24
  have H441 := Lib.hid (RModule.keep H422.out (w' := w24) (fun p hb => hb24.cell (by have : _ < w.heap.size := hb; (try simp) <;> omega)))
  clear H422
  have H442 := Lib.hid (RWordState.keep H423.out (w' := w24) (fun p hb => hb24.cell (by have : _ < w.heap.size := hb; (try simp) <;> omega)))
  clear H423
  have H443 := Lib.hid (Rep.keep H424.out (w' := w24) (fun p hb => hb24.cell (by have : _ < w.heap.size := hb; (try simp) <;> omega)))
  clear H424
  have H444 := Lib.hid (H425.out.below hb24 H425.out.lt)
  clear H425
  have H445 := Lib.hid (H426.out.below hb24 H426.out.lt)
  clear H426
  have H446 := Lib.hid (QModule.keep H427.out (w' := w24) (fun b hb => hb24.block b (by have := hb; simp only [Iv] at this; (try simp) <;> omega)))
  clear H427
  have H447 := Lib.hid (QWordState.keep H428.out (w' := w24) (fun b hb => hb24.block b (by have := hb; simp only [Iv] at this; (try simp) <;> omega)))
  clear H428
  have H448 := Lib.hid (Sep.keep H429.out (w' := w24) (fun b hb => hb24.block b (by have := hb; simp only [Iv] at this; (try simp) <;> omega)))
  clear H429
  have H449 := Lib.hid (Sep.keep H430.out (w' := w24) (fun b hb => hb24.block b (by have := hb; simp only [Iv] at this; (try simp) <;> omega)))
  clear H430
  have H450 := Lib.hid (H431.out.below hb24 H431.out.lt)
  clear H431
  have H451 := Lib.hid (H432.out.below hb24 H432.out.lt)
  clear H432
  have H452 := Lib.hid (QModule.keep H433.out (w' := w24) (fun b hb => hb24.block b (by have := hb; simp only [Iv] at this; (try simp) <;> omega)))
  clear H433
  have H453 := Lib.hid (QWordState.keep H434.out (w' := w24) (fun b hb => hb24.block b (by have := hb; simp only [Iv] at this; (try simp) <;> omega)))
  clear H434
  have H454 := Lib.hid (Sep.keep H435.out (w' := w24) (fun b hb => hb24.block b (by have := hb; simp only [Iv] at this; (try simp) <;> omega)))
  clear H435
  have H455 := Lib.hid (QModule.keep H436.out (w' := w24) (fun b hb => hb24.block b (by have := hb; simp only [Iv] at this; (try simp) <;> omega)))
  clear H436
  have H456 := Lib.hid (QWordState.keep H437.out (w' := w24) (fun b hb => hb24.block b (by have := hb; simp only [Iv] at this; (try simp) <;> omega)))
  clear H437
  have H457 := Lib.hid (Sep.keep H438.out (w' := w24) (fun b hb => hb24.block b (by have := hb; simp only [Iv] at this; (try simp) <;> omega)))
  clear H438
  have H458 := Lib.hid (Sep.keep H439.out (w' := w24) (fun b hb => hb24.block b (by have := hb; simp only [Iv] at this; (try simp) <;> omega)))
  clear H439
  have HB459 := Lib.hid (HB440.out.trans (hb24.mono (by have := HB440.out.size; (try simp) <;> omega)))
  clear HB440
  have HL460 := Lib.hid (HL421.out.trans (hb24.mono HL421.out.size))
  clear HL421
  refine hK _ _ (Cls.mk' HL460.out) ?_
  clear hK K hb24
  (repeat (first | (refine lex_read (by first | exact wanted_n rfl | exact wanted_g rfl rfl rfl rfl) (by exact rfl) (fun K hK => ?_); go_big_quiet_op; refine hK _ ?_; clear hK K) | (refine lex_skip' (by exact wanted_g rfl rfl rfl rfl) (fun K hK => ?_); go_simp; refine hK _ ?_; clear hK K)))
  (refine lex_eff (by first | exact wanted_n rfl | exact wanted_g rfl rfl rfl rfl) (by exact rfl) (fun K hK => ?_); go_big_op)
  refine (d_toWordState HZ1.out H442.out (fun b hb => by have : _ < w.heap.size := hb; (try simp) <;> omega)).mono ?_
  rintro e w25 ⟨vw25, rfl, hqw25, hb25⟩
  obtain ⟨Aw25_0, nw25_0, cw25_0, Aw25_1, nw25_1, cw25_1, rfl⟩ := hqw25.r.form
  have HQw25 := Lib.hid (QWordState.mono hqw25 (S' := Iv (w24.heap.size) (w25.heap.size)) (fun b hb => by have := hb; simp [New] at this; exact ⟨by omega, this.2⟩))
  clear hqw25
  have zw25 := hb25.size
  try simp at zw25
  have H461 := Lib.hid (RModule.keep H441.out (w' := w25) (fun p hb => hb25.cell (by have : _ < w.heap.size := hb; (try simp) <;> omega)))
  clear H441
  have H462 := Lib.hid (RWordState.keep H442.out (w' := w25) (fun p hb => hb25.cell (by have : _ < w.heap.size := hb; (try simp) <;> omega)))
  clear H442
  have H463 := Lib.hid (Rep.keep H443.out (w' := w25) (fun p hb => hb25.cell (by have : _ < w.heap.size := hb; (try simp) <;> omega)))
  clear H443
  have H464 := Lib.hid (H444.out.below hb25 H444.out.lt)
  clear H444
  have H465 := Lib.hid (H445.out.below hb25 H445.out.lt)
  clear H445
  have H466 := Lib.hid (QModule.keep H446.out (w' := w25) (fun b hb => hb25.block b (by have := hb; simp only [Iv] at this; (try simp) <;> omega)))
  clear H446
  have H467 := Lib.hid (QWordState.keep H447.out (w' := w25) (fun b hb => hb25.block b (by have := hb; simp only [Iv] at this; (try simp) <;> omega)))
  clear H447
  have H468 := Lib.hid (Sep.keep H448.out (w' := w25) (fun b hb => hb25.block b (by have := hb; simp only [Iv] at this; (try simp) <;> omega)))
  clear H448
  have H469 := Lib.hid (Sep.keep H449.out (w' := w25) (fun b hb => hb25.block b (by have := hb; simp only [Iv] at this; (try simp) <;> omega)))
  clear H449
  have H470 := Lib.hid (H450.out.below hb25 H450.out.lt)
  clear H450
  have H471 := Lib.hid (H451.out.below hb25 H451.out.lt)
  clear H451
  have H472 := Lib.hid (QModule.keep H452.out (w' := w25) (fun b hb => hb25.block b (by have := hb; simp only [Iv] at this; (try simp) <;> omega)))
  clear H452
  have H473 := Lib.hid (QWordState.keep H453.out (w' := w25) (fun b hb => hb25.block b (by have := hb; simp only [Iv] at this; (try simp) <;> omega)))
  clear H453
  have H474 := Lib.hid (Sep.keep H454.out (w' := w25) (fun b hb => hb25.block b (by have := hb; simp only [Iv] at this; (try simp) <;> omega)))
  clear H454
  have H475 := Lib.hid (QModule.keep H455.out (w' := w25) (fun b hb => hb25.block b (by have := hb; simp only [Iv] at this; (try simp) <;> omega)))
  clear H455
  have H476 := Lib.hid (QWordState.keep H456.out (w' := w25) (fun b hb => hb25.block b (by have := hb; simp only [Iv] at this; (try simp) <;> omega)))
  clear H456
  have H477 := Lib.hid (Sep.keep H457.out (w' := w25) (fun b hb => hb25.block b (by have := hb; simp only [Iv] at this; (try simp) <;> omega)))
  clear H457
  have H478 := Lib.hid (Sep.keep H458.out (w' := w25) (fun b hb => hb25.block b (by have := hb; simp only [Iv] at this; (try simp) <;> omega)))
  clear H458
  have H479 := Lib.hid (QModule.keep HQw24.out (w' := w25) (fun b hb => hb25.block b (by have := hb; simp only [Iv] at this; (try simp) <;> omega)))
  clear HQw24
  have HB480 := Lib.hid (HB459.out.trans (hb25.mono (by have := HB459.out.size; (try simp) <;> omega)))
  clear HB459
  have HL481 := Lib.hid (HL460.out.trans (hb25.mono HL460.out.size))
  clear HL460
  refine hK _ _ (Cls.mk' HL481.out) ?_
  clear hK K hb25
  (repeat (first | (refine lex_read (by first | exact wanted_n rfl | exact wanted_g rfl rfl rfl rfl) (by exact rfl) (fun K hK => ?_); go_big_quiet_op; refine hK _ ?_; clear hK K) | (refine lex_skip' (by exact wanted_g rfl rfl rfl rfl) (fun K hK => ?_); go_simp; refine hK _ ?_; clear hK K)))
  (refine lex_eff (by first | exact wanted_n rfl | exact wanted_g rfl rfl rfl rfl) (by exact rfl) (fun K hK => ?_); go_big_op)
  refine (d_toIntS HZ2.out H463.out (fun b hb => by have : _ < w.heap.size := hb; (try simp) <;> omega)).mono ?_
  rintro e w26 ⟨vw26, rfl, hqw26, hb26⟩
  obtain ⟨Aw26, nw26, cw26, rfl⟩ := slv_of hqw26.rep
  have HQw26 := Lib.hid (Sep.mono hqw26 (S' := Iv (w25.heap.size) (w26.heap.size)) (fun b hb => by have := hb; simp [New] at this; exact ⟨by omega, this.2⟩))
  clear hqw26
  have zw26 := hb26.size
  try simp at zw26
  have H482 := Lib.hid (RModule.keep H461.out (w' := w26) (fun p hb => hb26.cell (by have : _ < w.heap.size := hb; (try simp) <;> omega)))
  clear H461
  have H483 := Lib.hid (RWordState.keep H462.out (w' := w26) (fun p hb => hb26.cell (by have : _ < w.heap.size := hb; (try simp) <;> omega)))
  clear H462
  have H484 := Lib.hid (Rep.keep H463.out (w' := w26) (fun p hb => hb26.cell (by have : _ < w.heap.size := hb; (try simp) <;> omega)))
  clear H463
  have H485 := Lib.hid (H464.out.below hb26 H464.out.lt)
  clear H464
  have H486 := Lib.hid (H465.out.below hb26 H465.out.lt)
  clear H465
  have H487 := Lib.hid (QModule.keep H466.out (w' := w26) (fun b hb => hb26.block b (by have := hb; simp only [Iv] at this; (try simp) <;> omega)))
  clear H466
  have H488 := Lib.hid (QWordState.keep H467.out (w' := w26) (fun b hb => hb26.block b (by have := hb; simp only [Iv] at this; (try simp) <;> omega)))
  clear H467
  have H489 := Lib.hid (Sep.keep H468.out (w' := w26) (fun b hb => hb26.block b (by have := hb; simp only [Iv] at this; (try simp) <;> omega)))
  clear H468
  have H490 := Lib.hid (Sep.keep H469.out (w' := w26) (fun b hb => hb26.block b (by have := hb; simp only [Iv] at this; (try simp) <;> omega)))
  clear H469
  have H491 := Lib.hid (H470.out.below hb26 H470.out.lt)
  clear H470
  have H492 := Lib.hid (H471.out.below hb26 H471.out.lt)
  clear H471
  have H493 := Lib.hid (QModule.keep H472.out (w' := w26) (fun b hb => hb26.block b (by have := hb; simp only [Iv] at this; (try simp) <;> omega)))
  clear H472
  have H494 := Lib.hid (QWordState.keep H473.out (w' := w26) (fun b hb => hb26.block b (by have := hb; simp only [Iv] at this; (try simp) <;> omega)))
  clear H473
  have H495 := Lib.hid (Sep.keep H474.out (w' := w26) (fun b hb => hb26.block b (by have := hb; simp only [Iv] at this; (try simp) <;> omega)))
  clear H474
  have H496 := Lib.hid (QModule.keep H475.out (w' := w26) (fun b hb => hb26.block b (by have := hb; simp only [Iv] at this; (try simp) <;> omega)))
  clear H475
  have H497 := Lib.hid (QWordState.keep H476.out (w' := w26) (fun b hb => hb26.block b (by have := hb; simp only [Iv] at this; (try simp) <;> omega)))
  clear H476
  have H498 := Lib.hid (Sep.keep H477.out (w' := w26) (fun b hb => hb26.block b (by have := hb; simp only [Iv] at this; (try simp) <;> omega)))
  clear H477
  have H499 := Lib.hid (Sep.keep H478.out (w' := w26) (fun b hb => hb26.block b (by have := hb; simp only [Iv] at this; (try simp) <;> omega)))
  clear H478
  have H500 := Lib.hid (QModule.keep H479.out (w' := w26) (fun b hb => hb26.block b (by have := hb; simp only [Iv] at this; (try simp) <;> omega)))
  clear H479
  have H501 := Lib.hid (QWordState.keep HQw25.out (w' := w26) (fun b hb => hb26.block b (by have := hb; simp only [Iv] at this; (try simp) <;> omega)))
  clear HQw25
  have HB502 := Lib.hid (HB480.out.trans (hb26.mono (by have := HB480.out.size; (try simp) <;> omega)))
  clear HB480
  have HL503 := Lib.hid (HL481.out.trans (hb26.mono HL481.out.size))
  clear HL481
  refine hK _ _ (Cls.mk' HL503.out) ?_
  clear hK K hb26
  (repeat (first | (refine lex_read (by first | exact wanted_n rfl | exact wanted_g rfl rfl rfl rfl) (by exact rfl) (fun K hK => ?_); go_big_quiet_op; refine hK _ ?_; clear hK K) | (refine lex_skip' (by exact wanted_g rfl rfl rfl rfl) (fun K hK => ?_); go_simp; refine hK _ ?_; clear hK K)))
  (refine lex_eff (by first | exact wanted_n rfl | exact wanted_g rfl rfl rfl rfl) (by exact rfl) (fun K hK => ?_); go_big_op)
  refine (i_SignalValues HZ0.out H500.out.r (fun b hb => by have := hb; simp only [Iv] at this; (try simp) <;> omega) H501.out.r (fun b hb => by have := hb; simp only [Iv] at this; (try simp) <;> omega) HQw26.out.rep (fun b hb => by have := hb; simp only [Iv] at this; (try simp) <;> omega)).mono ?_
  rintro e w27 ⟨vw27_0, rfl, hqw27_0, hb27⟩
  obtain ⟨Aw27_0, nw27_0, cw27_0, rfl⟩ := slv_of hqw27_0.rep
  have HQw27_0 := Lib.hid (Sep.mono hqw27_0 (S' := Iv (w26.heap.size) (w27.heap.size)) (fun b hb => by have := hb; simp [New] at this; exact ⟨by omega, this.2⟩))
  clear hqw27_0
  have zw27 := hb27.size
  try simp at zw27
  have H504 := Lib.hid (RModule.keep H482.out (w' := w27) (fun p hb => hb27.cell (by have : _ < w.heap.size := hb; (try simp) <;> omega)))
  clear H482
  have H505 := Lib.hid (RWordState.keep H483.out (w' := w27) (fun p hb => hb27.cell (by have : _ < w.heap.size := hb; (try simp) <;> omega)))
  clear H483
  have H506 := Lib.hid (Rep.keep H484.out (w' := w27) (fun p hb => hb27.cell (by have : _ < w.heap.size := hb; (try simp) <;> omega)))
  clear H484
  have H507 := Lib.hid (H485.out.below hb27 H485.out.lt)
  clear H485
  have H508 := Lib.hid (H486.out.below hb27 H486.out.lt)
  clear H486
  have H509 := Lib.hid (QModule.keep H487.out (w' := w27) (fun b hb => hb27.block b (by have := hb; simp only [Iv] at this; (try simp) <;> omega)))
  clear H487
  have H510 := Lib.hid (QWordState.keep H488.out (w' := w27) (fun b hb => hb27.block b (by have := hb; simp only [Iv] at this; (try simp) <;> omega)))
  clear H488
  have H511 := Lib.hid (Sep.keep H489.out (w' := w27) (fun b hb => hb27.block b (by have := hb; simp only [Iv] at this; (try simp) <;> omega)))
  clear H489
  have H512 := Lib.hid (Sep.keep H490.out (w' := w27) (fun b hb => hb27.block b (by have := hb; simp only [Iv] at this; (try simp) <;> omega)))
  clear H490
  have H513 := Lib.hid (H491.out.below hb27 H491.out.lt)
  clear H491
  have H514 := Lib.hid (H492.out.below hb27 H492.out.lt)
  clear H492
  have H515 := Lib.hid (QModule.keep H493.out (w' := w27) (fun b hb => hb27.block b (by have := hb; simp only [Iv] at this; (try simp) <;> omega)))
  clear H493
  have H516 := Lib.hid (QWordState.keep H494.out (w' := w27) (fun b hb => hb27.block b (by have := hb; simp only [Iv] at this; (try simp) <;> omega)))
  clear H494
  have H517 := Lib.hid (Sep.keep H495.out (w' := w27) (fun b hb => hb27.block b (by have := hb; simp only [Iv] at this; (try simp) <;> omega)))
  clear H495
  have H518 := Lib.hid (QModule.keep H496.out (w' := w27) (fun b hb => hb27.block b (by have := hb; simp only [Iv] at this; (try simp) <;> omega)))
  clear H496
  have H519 := Lib.hid (QWordState.keep H497.out (w' := w27) (fun b hb => hb27.block b (by have := hb; simp only [Iv] at this; (try simp) <;> omega)))
  clear H497
  have H520 := Lib.hid (Sep.keep H498.out (w' := w27) (fun b hb => hb27.block b (by have := hb; simp only [Iv] at this; (try simp) <;> omega)))
  clear H498
  have H521 := Lib.hid (Sep.keep H499.out (w' := w27) (fun b hb => hb27.block b (by have := hb; simp only [Iv] at this; (try simp) <;> omega)))
  clear H499
  have H522 := Lib.hid (QModule.keep H500.out (w' := w27) (fun b hb => hb27.block b (by have := hb; simp only [Iv] at this; (try simp) <;> omega)))
  clear H500
  have H523 := Lib.hid (QWordState.keep H501.out (w' := w27) (fun b hb => hb27.block b (by have := hb; simp only [Iv] at this; (try simp) <;> omega)))
  clear H501
  have H524 := Lib.hid (Sep.keep HQw26.out (w' := w27) (fun b hb => hb27.block b (by have := hb; simp only [Iv] at this; (try simp) <;> omega)))
  clear HQw26
  have HB525 := Lib.hid (HB502.out.trans (hb27.mono (by have := HB502.out.size; (try simp) <;> omega)))
  clear HB502
  have HL526 := Lib.hid (HL503.out.trans (hb27.mono HL503.out.size))
  clear HL503
  refine hK _ _ (Cls.mk' HL526.out) ?_
  clear hK K hb27
  (repeat (first | (refine lex_read (by first | exact wanted_n rfl | exact wanted_g rfl rfl rfl rfl) (by exact rfl) (fun K hK => ?_); go_big_quiet_op; refine hK _ ?_; clear hK K) | (refine lex_skip' (by exact wanted_g rfl rfl rfl rfl) (fun K hK => ?_); go_simp; refine hK _ ?_; clear hK K)))
  (refine lex_nil ?_)
  clear lexNE cH405_0 cH405_1 cH405_2 cH405_3 cH406_0 cH406_1
  go_wp2_with fail
  refine (d_eqIntS (sigL_sz m st ins) HQw27_0.out.rep H512.out.rep (fun b hb => by have := hb; simp only [Iv] at this; (try simp) <;> omega) (fun b hb => by have := hb; simp only [Iv] at this; (try simp) <;> omega)).mono ?_
  rintro e w28 ⟨rfl, hb28⟩
  have zw28 := hb28.size
  try simp at zw28
  have H527 := Lib.hid (RModule.keep H504.out (w' := w28) (fun p hb => hb28.cell (by have : _ < w.heap.size := hb; (try simp) <;> omega)))
  clear H504
  have H528 := Lib.hid (RWordState.keep H505.out (w' := w28) (fun p hb => hb28.cell (by have : _ < w.heap.size := hb; (try simp) <;> omega)))
  clear H505
  have H529 := Lib.hid (Rep.keep H506.out (w' := w28) (fun p hb => hb28.cell (by have : _ < w.heap.size := hb; (try simp) <;> omega)))
  clear H506
  have H530 := Lib.hid (H507.out.below hb28 H507.out.lt)
  clear H507
  have H531 := Lib.hid (H508.out.below hb28 H508.out.lt)
  clear H508
  have H532 := Lib.hid (QModule.keep H509.out (w' := w28) (fun b hb => hb28.block b (by have := hb; simp only [Iv] at this; (try simp) <;> omega)))
  clear H509
  have H533 := Lib.hid (QWordState.keep H510.out (w' := w28) (fun b hb => hb28.block b (by have := hb; simp only [Iv] at this; (try simp) <;> omega)))
  clear H510
  have H534 := Lib.hid (Sep.keep H511.out (w' := w28) (fun b hb => hb28.block b (by have := hb; simp only [Iv] at this; (try simp) <;> omega)))
  clear H511
  have H535 := Lib.hid (Sep.keep H512.out (w' := w28) (fun b hb => hb28.block b (by have := hb; simp only [Iv] at this; (try simp) <;> omega)))
  clear H512
  have H536 := Lib.hid (H513.out.below hb28 H513.out.lt)
  clear H513
  have H537 := Lib.hid (H514.out.below hb28 H514.out.lt)
  clear H514
  have H538 := Lib.hid (QModule.keep H515.out (w' := w28) (fun b hb => hb28.block b (by have := hb; simp only [Iv] at this; (try simp) <;> omega)))
  clear H515
  have H539 := Lib.hid (QWordState.keep H516.out (w' := w28) (fun b hb => hb28.block b (by have := hb; simp only [Iv] at this; (try simp) <;> omega)))
  clear H516
  have H540 := Lib.hid (Sep.keep H517.out (w' := w28) (fun b hb => hb28.block b (by have := hb; simp only [Iv] at this; (try simp) <;> omega)))
  clear H517
  have H541 := Lib.hid (QModule.keep H518.out (w' := w28) (fun b hb => hb28.block b (by have := hb; simp only [Iv] at this; (try simp) <;> omega)))
  clear H518
  have H542 := Lib.hid (QWordState.keep H519.out (w' := w28) (fun b hb => hb28.block b (by have := hb; simp only [Iv] at this; (try simp) <;> omega)))
  clear H519
  have H543 := Lib.hid (Sep.keep H520.out (w' := w28) (fun b hb => hb28.block b (by have := hb; simp only [Iv] at this; (try simp) <;> omega)))
  clear H520
  have H544 := Lib.hid (Sep.keep H521.out (w' := w28) (fun b hb => hb28.block b (by have := hb; simp only [Iv] at this; (try simp) <;> omega)))
  clear H521
  have H545 := Lib.hid (QModule.keep H522.out (w' := w28) (fun b hb => hb28.block b (by have := hb; simp only [Iv] at this; (try simp) <;> omega)))
  clear H522
  have H546 := Lib.hid (QWordState.keep H523.out (w' := w28) (fun b hb => hb28.block b (by have := hb; simp only [Iv] at this; (try simp) <;> omega)))
  clear H523
  have H547 := Lib.hid (Sep.keep H524.out (w' := w28) (fun b hb => hb28.block b (by have := hb; simp only [Iv] at this; (try simp) <;> omega)))
  clear H524
  have H548 := Lib.hid (Sep.keep HQw27_0.out (w' := w28) (fun b hb => hb28.block b (by have := hb; simp only [Iv] at this; (try simp) <;> omega)))
  clear HQw27_0
  have HB549 := Lib.hid (HB525.out.trans (hb28.mono (by have := HB525.out.size; (try simp) <;> omega)))
  clear HB525
  clear hb28
  go_wp2_with fail
  have hmb550 : 1 + nuL nInt (sigL m st ins) ≤ 1099511627776 := by rw [← HMmk382.out]; omega
  refine (d_heldIntS (1) (by omega) H544.out.rep (fun b hb => by have := hb; simp only [Iv] at this; (try simp) <;> omega)).mono ?_
  rintro e w29 ⟨rfl, hb29⟩
  rw [← HMmk382.out]
  clear hmb550
  have zw29 := hb29.size
  try simp at zw29
  have H551 := Lib.hid (RModule.keep H527.out (w' := w29) (fun p hb => hb29.cell (by have : _ < w.heap.size := hb; (try simp) <;> omega)))
  clear H527
  have H552 := Lib.hid (RWordState.keep H528.out (w' := w29) (fun p hb => hb29.cell (by have : _ < w.heap.size := hb; (try simp) <;> omega)))
  clear H528
  have H553 := Lib.hid (Rep.keep H529.out (w' := w29) (fun p hb => hb29.cell (by have : _ < w.heap.size := hb; (try simp) <;> omega)))
  clear H529
  have H554 := Lib.hid (H530.out.below hb29 H530.out.lt)
  clear H530
  have H555 := Lib.hid (H531.out.below hb29 H531.out.lt)
  clear H531
  have H556 := Lib.hid (QModule.keep H532.out (w' := w29) (fun b hb => hb29.block b (by have := hb; simp only [Iv] at this; (try simp) <;> omega)))
  clear H532
  have H557 := Lib.hid (QWordState.keep H533.out (w' := w29) (fun b hb => hb29.block b (by have := hb; simp only [Iv] at this; (try simp) <;> omega)))
  clear H533
  have H558 := Lib.hid (Sep.keep H534.out (w' := w29) (fun b hb => hb29.block b (by have := hb; simp only [Iv] at this; (try simp) <;> omega)))
  clear H534
  have H559 := Lib.hid (Sep.keep H535.out (w' := w29) (fun b hb => hb29.block b (by have := hb; simp only [Iv] at this; (try simp) <;> omega)))
  clear H535
  have H560 := Lib.hid (H536.out.below hb29 H536.out.lt)
  clear H536
  have H561 := Lib.hid (H537.out.below hb29 H537.out.lt)
  clear H537
  have H562 := Lib.hid (QModule.keep H538.out (w' := w29) (fun b hb => hb29.block b (by have := hb; simp only [Iv] at this; (try simp) <;> omega)))
  clear H538
  have H563 := Lib.hid (QWordState.keep H539.out (w' := w29) (fun b hb => hb29.block b (by have := hb; simp only [Iv] at this; (try simp) <;> omega)))
  clear H539
  have H564 := Lib.hid (Sep.keep H540.out (w' := w29) (fun b hb => hb29.block b (by have := hb; simp only [Iv] at this; (try simp) <;> omega)))
  clear H540
  have H565 := Lib.hid (QModule.keep H541.out (w' := w29) (fun b hb => hb29.block b (by have := hb; simp only [Iv] at this; (try simp) <;> omega)))
  clear H541
  have H566 := Lib.hid (QWordState.keep H542.out (w' := w29) (fun b hb => hb29.block b (by have := hb; simp only [Iv] at this; (try simp) <;> omega)))
  clear H542
  have H567 := Lib.hid (Sep.keep H543.out (w' := w29) (fun b hb => hb29.block b (by have := hb; simp only [Iv] at this; (try simp) <;> omega)))
  clear H543
  have H568 := Lib.hid (Sep.keep H544.out (w' := w29) (fun b hb => hb29.block b (by have := hb; simp only [Iv] at this; (try simp) <;> omega)))
  clear H544
  have H569 := Lib.hid (QModule.keep H545.out (w' := w29) (fun b hb => hb29.block b (by have := hb; simp only [Iv] at this; (try simp) <;> omega)))
  clear H545
  have H570 := Lib.hid (QWordState.keep H546.out (w' := w29) (fun b hb => hb29.block b (by have := hb; simp only [Iv] at this; (try simp) <;> omega)))
  clear H546
  have H571 := Lib.hid (Sep.keep H547.out (w' := w29) (fun b hb => hb29.block b (by have := hb; simp only [Iv] at this; (try simp) <;> omega)))
  clear H547
  have H572 := Lib.hid (Sep.keep H548.out (w' := w29) (fun b hb => hb29.block b (by have := hb; simp only [Iv] at this; (try simp) <;> omega)))
  clear H548
  have HB573 := Lib.hid (HB549.out.trans (hb29.mono (by have := HB549.out.size; (try simp) <;> omega)))
  clear HB549
  clear hb29
  go_wp2_with fail
  go_ret
  exact ⟨rfl, HB573.out⟩
set_option maxRecDepth 100000 in
theorem lifted_FnExactSignalValues (os : Os) (started : os.Started) (H : Type) (enc : TypeId × Value → H) :
    ReturnsInHanded {} Try.checked os 12 .any (Rows.fnExactSignalValuesSpec.pre6 enc Try.prog Try.f12 Rows.fnExactSignalValuesRow.domain false) (Rows.fnExactSignalValuesSpec.post enc Try.prog Try.f12 false true false false) := by
  refine lift (F := 12) (fn := Try.f12) (s := Rows.fnExactSignalValuesSpec) (conds := Rows.fnExactSignalValuesRow.domain) (by kernel_rfl) Try.func12 (by kernel_rfl) rfl (by kernel_rfl) ?_ ?_ os started H enc
    (ChangeSpec.witness6 (enc := enc) (C := Try.checked) false ⟨#[], #[.agg #[.slice none 0 0, .slice none 0 0, .slice none 0 0, .slice none 0 0], .agg #[.slice none 0 0, .slice none 0 0], .slice none 0 0], []⟩ 8 (by kernel_rfl) (by kernel_rfl) (by kernel_rfl) (by kernel_rfl))
  · intro H ds hl
    rw [Try.params12] at hl
    match ds, hl with
    | [d0, d1, d2], _ => exact ⟨rfl, rfl, rfl⟩
  · intro W base args H enc ds p hval hA hlt
    rw [Try.params12] at hA hval
    obtain ⟨v0, vs0, e0, es0, p0, q0, hargs, rfl, rfl, h0, r0⟩ := trodAll_cons hA
    obtain ⟨v1, vs1, e1, es1, p1, q1, rfl, rfl, rfl, h1, r1⟩ := trodAll_cons r0
    obtain ⟨v2, vs2, e2, es2, p2, q2, rfl, rfl, rfl, h2, r2⟩ := trodAll_cons r1
    obtain ⟨rfl, rfl, rfl⟩ := trodAll_nil r2
    obtain rfl : args = #[v0, v1, v2] := by cases args; simp_all
    obtain ⟨x0, w0⟩ := op_Module (hval 0 42 v0 rfl rfl) h0 (fun x hx => hlt x (by simp [hx]))
    obtain ⟨x1, w1⟩ := op_WordState (hval 1 66 v1 rfl rfl) h1 (fun x hx => hlt x (by simp [hx]))
    obtain ⟨x2, w2⟩ := op_IntS (hval 2 44 v2 rfl rfl) h2 (fun x hx => hlt x (by simp [hx]))
    exact walk_FnExactSignalValues v0 x0 v1 x1 v2 x2 W w0 w1 w2
theorem facts_FnExactSignalValues : joinedFacts Try.pinned.checked.prog 12 Try.f12 Rows.fnExactSignalValuesSpec Rows.fnExactSignalValuesRow = true :=
  facts_of (P := Try.prog) mayE liftE makeE rfl rfl (by kernel_rfl) (by kernel_rfl) (by kernel_rfl) (by kernel_rfl) (by kernel_rfl) (by kernel_rfl) (by kernel_rfl) (by kernel_rfl) (by kernel_rfl) (by kernel_rfl) (by kernel_rfl) (by kernel_rfl) (by kernel_rfl) rfl rfl (by kernel_rfl) (by kernel_rfl) (by kernel_rfl) (by kernel_rfl) (by kernel_rfl) (by kernel_rfl) (by kernel_rfl) (by kernel_rfl) (by kernel_rfl) (by kernel_rfl) (by kernel_rfl) rfl rfl (by kernel_rfl) (by kernel_rfl) (by kernel_rfl)
theorem over_FnExactSignalValues : Rows.fnExactSignalValuesRow.holds Try.pinned (OpenSpec.ofChange Rows.fnExactSignalValuesSpec) :=
  OpenClaim.holds_of_wide 12 Try.f12 rfl rfl rfl rfl rfl rfl rfl ⟨rfl, rfl, rfl, rfl, rfl⟩ rfl rfl rfl rfl rfl (by kernel_rfl) Try.func12 facts_FnExactSignalValues
    (of_decide_eq_true (by kernel_rfl)) (by unfold Func.isWrapper; first | (rw [if_pos (by decide +kernel)]; kernel_rfl) | (rw [if_neg (by decide +kernel)]; exact ⟨rfl, rfl⟩))
    (fun os started H enc _ => lifted_FnExactSignalValues os started H enc)
theorem FnExactSignalValues_holds : Rows.FnExactSignalValuesSaid := over_FnExactSignalValues
end Go.Proofs.Ytjiijjihkgipkaa
