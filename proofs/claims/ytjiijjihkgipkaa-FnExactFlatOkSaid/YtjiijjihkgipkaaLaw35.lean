/- Law of flat modules: for every module the program's FlatOk is the reference's. Conditions: none. -/
import Derived.Test.YtjiijjihkgipkaaFrame8
import Derived.Test.YtjiijjihkgipkaaFokC
import Derived.Test.YtjiijjihkgipkaaGa
import Derived.Outline
namespace Go.Proofs.Ytjiijjihkgipkaa
open Go.ChangeShapes Go.WideShapes Go.ChangeAt Go.RowKit

set_option maxRecDepth 100000 in
set_option maxHeartbeats 8000000 in
theorem walk_FnExactFlatOk (v0 : Value) (m : TModule) (w : World) (h0 : RModule (w) (fun b => b < w.heap.size) (v0) m ∧ WfModule m) :
    Calls Try.prog 7 #[v0] w fun e w' => e = .returned (.bool true) ∧ Below w.heap.size w w' := by
  obtain ⟨h0, wf0⟩ := h0
  have WF0 := Lib.hid wf0
  clear wf0
  obtain ⟨Aa0_0, na0_0, ca0_0, Aa0_1, na0_1, ca0_1, Aa0_2, na0_2, ca0_2, Aa0_3, na0_3, ca0_3, rfl⟩ := h0.form
  have HB0 := Lib.hid (Below.refl w.heap.size w)
  have HR0 := Lib.hid h0
  clear h0
  go_enter Try.func7, Try.ntmps7
  have H2 := Lib.hid (RModule.keep HR0.out (w' := (w.alloc (.cells #[.slice Aa0_0 na0_0 ca0_0, .slice Aa0_1 na0_1 ca0_1, .slice Aa0_2 na0_2 ca0_2, .slice Aa0_3 na0_3 ca0_3] 42))) (fun p hb => World.cell?_alloc_lt _ _ p (by have : _ < w.heap.size := hb; (try simp) <;> omega)))
  clear HR0
  have HB3 := Lib.hid (HB0.out.alloc (by have := HB0.out.size; (try simp) <;> omega) (.cells #[.slice Aa0_0 na0_0 ca0_0, .slice Aa0_1 na0_1 ca0_1, .slice Aa0_2 na0_2 ca0_2, .slice Aa0_3 na0_3 ca0_3] 42))
  clear HB0
  have HX1 := Lib.hid (show Blk (w.alloc (.cells #[.slice Aa0_0 na0_0 ca0_0, .slice Aa0_1 na0_1 ca0_1, .slice Aa0_2 na0_2 ca0_2, .slice Aa0_3 na0_3 ca0_3] 42)) (w.heap.size) 42 #[.slice Aa0_0 na0_0 ca0_0, .slice Aa0_1 na0_1 ca0_1, .slice Aa0_2 na0_2 ca0_2, .slice Aa0_3 na0_3 ca0_3] from by have h := Blk.new (w) 42 #[.slice Aa0_0 na0_0 ca0_0, .slice Aa0_1 na0_1 ca0_1, .slice Aa0_2 na0_2 ca0_2, .slice Aa0_3 na0_3 ca0_3]; simpa using h)
  obtain ⟨yHX1_0, yHX1_1, yHX1_2, yHX1_3⟩ := blkS4 HX1.out
  go_wp2_with fail
  refine (d_szModule (1048576) (by omega) H2.out (fun b hb => by have : _ < w.heap.size := hb; (try simp) <;> omega)).mono ?_
  rintro e w1 ⟨rfl, hb1⟩
  obtain ⟨cz0, hcz0⟩ : ∃ zz, zz = sModule m := ⟨_, rfl⟩
  rw [← hcz0]
  have zw1 := hb1.size
  try simp at zw1
  have H4 := Lib.hid (RModule.keep H2.out (w' := w1) (fun p hb => hb1.cell (by have : _ < w.heap.size := hb; (try simp) <;> omega)))
  clear H2
  have H5 := Lib.hid (HX1.out.below hb1 HX1.out.lt)
  clear HX1
  have HB6 := Lib.hid (HB3.out.trans (hb1.mono (by have := HB3.out.size; (try simp) <;> omega)))
  clear HB3
  clear hb1
  by_cases bcz0 : cz0 ≤ 1048576
  rotate_left
  · rw [leftD_no bcz0]
    clear hcz0
    go_wp2_with fail
    go_ret
    exact ⟨rfl, HB6.out⟩
  obtain ⟨lf0, hlf0⟩ : ∃ zz, zz = 1048576 - cz0 := ⟨_, rfl⟩
  rw [leftD_yes bcz0, ← hlf0]
  have HZ0 := Lib.hid (show sModule m ≤ 1048576 by rw [← hcz0]; omega)
  have hllf0 : lf0 ≤ 1048576 := by omega
  clear hcz0 bcz0 hlf0
  clear yHX1_0 yHX1_1 yHX1_2 yHX1_3
  obtain ⟨yH5_0, yH5_1, yH5_2, yH5_3⟩ := blkS4 H5.out
  go_wp2_with fail
  refine (d_toModule HZ0.out H4.out (fun b hb => by have : _ < w.heap.size := hb; (try simp) <;> omega)).mono ?_
  rintro e w2 ⟨vw2, rfl, hqw2, hb2⟩
  obtain ⟨Aw2_0, nw2_0, cw2_0, Aw2_1, nw2_1, cw2_1, Aw2_2, nw2_2, cw2_2, Aw2_3, nw2_3, cw2_3, rfl⟩ := hqw2.r.form
  have HQw2 := Lib.hid (QModule.mono hqw2 (S' := Iv (w1.heap.size) (w2.heap.size)) (fun b hb => by have := hb; simp [New] at this; exact ⟨by omega, this.2⟩))
  clear hqw2
  have zw2 := hb2.size
  try simp at zw2
  have H7 := Lib.hid (RModule.keep H4.out (w' := w2) (fun p hb => hb2.cell (by have : _ < w.heap.size := hb; (try simp) <;> omega)))
  clear H4
  have H8 := Lib.hid (H5.out.below hb2 H5.out.lt)
  clear H5
  have HB9 := Lib.hid (HB6.out.trans (hb2.mono (by have := HB6.out.size; (try simp) <;> omega)))
  clear HB6
  clear hb2
  clear yH5_0 yH5_1 yH5_2 yH5_3
  go_wp2_with fail
  refine (s_FlatOk HZ0.out HQw2.out.r (fun b hb => by have := hb; simp only [Iv] at this; (try simp) <;> omega)).mono ?_
  rintro e w3 ⟨rfl, hb3⟩
  obtain ⟨q0, hq0⟩ : ∃ zz, zz = flatB m := ⟨_, rfl⟩
  rw [← hq0]
  have HS0 := Lib.hid hq0
  clear hq0
  have zw3 := hb3.size
  try simp at zw3
  have H10 := Lib.hid (RModule.keep H7.out (w' := w3) (fun p hb => hb3.cell (by have : _ < w.heap.size := hb; (try simp) <;> omega)))
  clear H7
  have H11 := Lib.hid (H8.out.below hb3 H8.out.lt)
  clear H8
  have H12 := Lib.hid (QModule.keep HQw2.out (w' := w3) (fun b hb => hb3.block b (by have := hb; simp only [Iv] at this; (try simp) <;> omega)))
  clear HQw2
  have HB13 := Lib.hid (HB9.out.trans (hb3.mono (by have := HB9.out.size; (try simp) <;> omega)))
  clear HB9
  clear hb3
  obtain ⟨yH11_0, yH11_1, yH11_2, yH11_3⟩ := blkS4 H11.out
  go_wp2_with fail
  refine (d_toModule HZ0.out H10.out (fun b hb => by have : _ < w.heap.size := hb; (try simp) <;> omega)).mono ?_
  rintro e w4 ⟨vw4, rfl, hqw4, hb4⟩
  obtain ⟨Aw4_0, nw4_0, cw4_0, Aw4_1, nw4_1, cw4_1, Aw4_2, nw4_2, cw4_2, Aw4_3, nw4_3, cw4_3, rfl⟩ := hqw4.r.form
  have HQw4 := Lib.hid (QModule.mono hqw4 (S' := Iv (w3.heap.size) (w4.heap.size)) (fun b hb => by have := hb; simp [New] at this; exact ⟨by omega, this.2⟩))
  clear hqw4
  have zw4 := hb4.size
  try simp at zw4
  have H14 := Lib.hid (RModule.keep H10.out (w' := w4) (fun p hb => hb4.cell (by have : _ < w.heap.size := hb; (try simp) <;> omega)))
  clear H10
  have H15 := Lib.hid (H11.out.below hb4 H11.out.lt)
  clear H11
  have H16 := Lib.hid (QModule.keep H12.out (w' := w4) (fun b hb => hb4.block b (by have := hb; simp only [Iv] at this; (try simp) <;> omega)))
  clear H12
  have HB17 := Lib.hid (HB13.out.trans (hb4.mono (by have := HB13.out.size; (try simp) <;> omega)))
  clear HB13
  clear hb4
  have H19 := Lib.hid (RModule.keep H14.out (w' := (w4.alloc (.cells #[.slice Aw4_0 nw4_0 cw4_0, .slice Aw4_1 nw4_1 cw4_1, .slice Aw4_2 nw4_2 cw4_2, .slice Aw4_3 nw4_3 cw4_3] 52))) (fun p hb => World.cell?_alloc_lt _ _ p (by have : _ < w.heap.size := hb; (try simp) <;> omega)))
  clear H14
  have H20 := Lib.hid (H15.out.alloc (.cells #[.slice Aw4_0 nw4_0 cw4_0, .slice Aw4_1 nw4_1 cw4_1, .slice Aw4_2 nw4_2 cw4_2, .slice Aw4_3 nw4_3 cw4_3] 52))
  clear H15
  have H21 := Lib.hid (QModule.keep H16.out (w' := (w4.alloc (.cells #[.slice Aw4_0 nw4_0 cw4_0, .slice Aw4_1 nw4_1 cw4_1, .slice Aw4_2 nw4_2 cw4_2, .slice Aw4_3 nw4_3 cw4_3] 52))) (fun b hb => Below.heap_alloc _ _ b (by have := hb; simp only [Iv] at this; (try simp) <;> omega)))
  clear H16
  have H22 := Lib.hid (QModule.keep HQw4.out (w' := (w4.alloc (.cells #[.slice Aw4_0 nw4_0 cw4_0, .slice Aw4_1 nw4_1 cw4_1, .slice Aw4_2 nw4_2 cw4_2, .slice Aw4_3 nw4_3 cw4_3] 52))) (fun b hb => Below.heap_alloc _ _ b (by have := hb; simp only [Iv] at this; (try simp) <;> omega)))
  clear HQw4
  have HB23 := Lib.hid (HB17.out.alloc (by have := HB17.out.size; (try simp) <;> omega) (.cells #[.slice Aw4_0 nw4_0 cw4_0, .slice Aw4_1 nw4_1 cw4_1, .slice Aw4_2 nw4_2 cw4_2, .slice Aw4_3 nw4_3 cw4_3] 52))
  clear HB17
  have HX18 := Lib.hid (show Blk (w4.alloc (.cells #[.slice Aw4_0 nw4_0 cw4_0, .slice Aw4_1 nw4_1 cw4_1, .slice Aw4_2 nw4_2 cw4_2, .slice Aw4_3 nw4_3 cw4_3] 52)) (w4.heap.size) 52 #[.slice Aw4_0 nw4_0 cw4_0, .slice Aw4_1 nw4_1 cw4_1, .slice Aw4_2 nw4_2 cw4_2, .slice Aw4_3 nw4_3 cw4_3] from by have h := Blk.new (w4) 52 #[.slice Aw4_0 nw4_0 cw4_0, .slice Aw4_1 nw4_1 cw4_1, .slice Aw4_2 nw4_2 cw4_2, .slice Aw4_3 nw4_3 cw4_3]; simpa using h)
  clear yH11_0 yH11_1 yH11_2 yH11_3
  obtain ⟨yHX18_0, yHX18_1, yHX18_2, yHX18_3⟩ := blkS4 HX18.out
  go_wp2_with fail
  refine (i_FlatOk HZ0.out H22.out.r (fun b hb => by have := hb; simp only [Iv] at this; (try simp) <;> omega)).mono ?_
  rintro e w5 ⟨rfl, hb5⟩
  rw [← HS0.out]
  have zw5 := hb5.size
  try simp at zw5
  have H24 := Lib.hid (RModule.keep H19.out (w' := w5) (fun p hb => hb5.cell (by have : _ < w.heap.size := hb; (try simp) <;> omega)))
  clear H19
  have H25 := Lib.hid (H20.out.below hb5 H20.out.lt)
  clear H20
  have H26 := Lib.hid (QModule.keep H21.out (w' := w5) (fun b hb => hb5.block b (by have := hb; simp only [Iv] at this; (try simp) <;> omega)))
  clear H21
  have H27 := Lib.hid (QModule.keep H22.out (w' := w5) (fun b hb => hb5.block b (by have := hb; simp only [Iv] at this; (try simp) <;> omega)))
  clear H22
  have H28 := Lib.hid (HX18.out.below hb5 HX18.out.lt)
  clear HX18
  have HB29 := Lib.hid (HB23.out.trans (hb5.mono (by have := HB23.out.size; (try simp) <;> omega)))
  clear HB23
  clear hb5
  clear yHX18_0 yHX18_1 yHX18_2 yHX18_3
  go_wp2_with fail
  refine wp_region_lexC (by kernel_rfl) (by kernel_rfl) (fun x => Below w5.heap.size w5 x) ((Below.refl _ _).drew) (fun lexNE => ?_)
  obtain ⟨cH28_0, cH28_1, cH28_2, cH28_3⟩ := bwS4 (B := w5.heap.size) H28.out H28.out.lt
  obtain ⟨cH25_0, cH25_1, cH25_2, cH25_3⟩ := bwS4 (B := w5.heap.size) H25.out H25.out.lt
  have HL30 := Lib.hid ((Below.refl w5.heap.size w5).drew)
  have H31 := Lib.hid (RModule.keep H24.out (w' := w5.drew) (fun p hb => rfl))
  clear H24
  have H32 := Lib.hid (H25.out.drew)
  clear H25
  have H33 := Lib.hid (QModule.keep H26.out (w' := w5.drew) (fun b hb => rfl))
  clear H26
  have H34 := Lib.hid (QModule.keep H27.out (w' := w5.drew) (fun b hb => rfl))
  clear H27
  have H35 := Lib.hid (H28.out.drew)
  clear H28
  have HB36 := Lib.hid (HB29.out.drew)
  clear HB29
  (repeat (first | (refine lex_read (by first | exact wanted_n rfl | exact wanted_g rfl rfl rfl rfl) (by exact rfl) (fun K hK => ?_); go_big_quiet_op; refine hK _ ?_; clear hK K) | (refine lex_skip' (by exact wanted_g rfl rfl rfl rfl) (fun K hK => ?_); go_simp; refine hK _ ?_; clear hK K)))
  (refine lex_eff (by first | exact wanted_n rfl | exact wanted_g rfl rfl rfl rfl) (by exact rfl) (fun K hK => ?_); go_big_op)
  refine (d_toModule HZ0.out H31.out (fun b hb => by have : _ < w.heap.size := hb; (try simp) <;> omega)).mono ?_
  rintro e w6 ⟨vw6, rfl, hqw6, hb6⟩
  obtain ⟨Aw6_0, nw6_0, cw6_0, Aw6_1, nw6_1, cw6_1, Aw6_2, nw6_2, cw6_2, Aw6_3, nw6_3, cw6_3, rfl⟩ := hqw6.r.form
  have HQw6 := Lib.hid (QModule.mono hqw6 (S' := Iv (w5.heap.size) (w6.heap.size)) (fun b hb => by have := hb; simp [New] at this; exact ⟨by omega, this.2⟩))
  clear hqw6
  have zw6 := hb6.size
  try simp at zw6
  have H37 := Lib.hid (RModule.keep H31.out (w' := w6) (fun p hb => hb6.cell (by have : _ < w.heap.size := hb; (try simp) <;> omega)))
  clear H31
  have H38 := Lib.hid (H32.out.below hb6 H32.out.lt)
  clear H32
  have H39 := Lib.hid (QModule.keep H33.out (w' := w6) (fun b hb => hb6.block b (by have := hb; simp only [Iv] at this; (try simp) <;> omega)))
  clear H33
  have H40 := Lib.hid (QModule.keep H34.out (w' := w6) (fun b hb => hb6.block b (by have := hb; simp only [Iv] at this; (try simp) <;> omega)))
  clear H34
  have H41 := Lib.hid (H35.out.below hb6 H35.out.lt)
  clear H35
  have HB42 := Lib.hid (HB36.out.trans (hb6.mono (by have := HB36.out.size; (try simp) <;> omega)))
  clear HB36
  have HL43 := Lib.hid (HL30.out.trans (hb6.mono HL30.out.size))
  clear HL30
  refine hK _ _ (Cls.mk' HL43.out) ?_
  clear hK K hb6
  (repeat (first | (refine lex_read (by first | exact wanted_n rfl | exact wanted_g rfl rfl rfl rfl) (by exact rfl) (fun K hK => ?_); go_big_quiet_op; refine hK _ ?_; clear hK K) | (refine lex_skip' (by exact wanted_g rfl rfl rfl rfl) (fun K hK => ?_); go_simp; refine hK _ ?_; clear hK K)))
  (refine lex_eff (by first | exact wanted_n rfl | exact wanted_g rfl rfl rfl rfl) (by exact rfl) (fun K hK => ?_); go_big_op)
  refine (d_eqModule HZ0.out H40.out.r HQw6.out.r (fun b hb => by have := hb; simp only [Iv] at this; (try simp) <;> omega) (fun b hb => by have := hb; simp only [Iv] at this; (try simp) <;> omega)).mono ?_
  rintro e w7 ⟨rfl, hb7⟩
  have zw7 := hb7.size
  try simp at zw7
  have H44 := Lib.hid (RModule.keep H37.out (w' := w7) (fun p hb => hb7.cell (by have : _ < w.heap.size := hb; (try simp) <;> omega)))
  clear H37
  have H45 := Lib.hid (H38.out.below hb7 H38.out.lt)
  clear H38
  have H46 := Lib.hid (QModule.keep H39.out (w' := w7) (fun b hb => hb7.block b (by have := hb; simp only [Iv] at this; (try simp) <;> omega)))
  clear H39
  have H47 := Lib.hid (QModule.keep H40.out (w' := w7) (fun b hb => hb7.block b (by have := hb; simp only [Iv] at this; (try simp) <;> omega)))
  clear H40
  have H48 := Lib.hid (H41.out.below hb7 H41.out.lt)
  clear H41
  have H49 := Lib.hid (QModule.keep HQw6.out (w' := w7) (fun b hb => hb7.block b (by have := hb; simp only [Iv] at this; (try simp) <;> omega)))
  clear HQw6
  have HB50 := Lib.hid (HB42.out.trans (hb7.mono (by have := HB42.out.size; (try simp) <;> omega)))
  clear HB42
  have HL51 := Lib.hid (HL43.out.trans (hb7.mono HL43.out.size))
  clear HL43
  refine hK _ _ (Cls.mk' HL51.out) ?_
  clear hK K hb7
  (repeat (first | (refine lex_read (by first | exact wanted_n rfl | exact wanted_g rfl rfl rfl rfl) (by exact rfl) (fun K hK => ?_); go_big_quiet_op; refine hK _ ?_; clear hK K) | (refine lex_skip' (by exact wanted_g rfl rfl rfl rfl) (fun K hK => ?_); go_simp; refine hK _ ?_; clear hK K)))
  (refine lex_nil ?_)
  clear lexNE cH28_0 cH28_1 cH28_2 cH28_3 cH25_0 cH25_1 cH25_2 cH25_3
  go_wp2_with fail
  go_ret
  exact ⟨rfl, HB50.out⟩
set_option maxRecDepth 100000 in
theorem lifted_FnExactFlatOk (os : Os) (started : os.Started) (H : Type) (enc : TypeId × Value → H) :
    ReturnsInHanded {} Try.checked os 7 .any (Rows.fnExactFlatOkSpec.pre6 enc Try.prog Try.f7 Rows.fnExactFlatOkRow.domain false) (Rows.fnExactFlatOkSpec.post enc Try.prog Try.f7 false true false false) := by
  refine lift (F := 7) (fn := Try.f7) (s := Rows.fnExactFlatOkSpec) (conds := Rows.fnExactFlatOkRow.domain) (by kernel_rfl) Try.func7 (by kernel_rfl) rfl (by kernel_rfl) ?_ ?_ os started H enc
    (ChangeSpec.witness6 (enc := enc) (C := Try.checked) false ⟨#[], #[.agg #[.slice none 0 0, .slice none 0 0, .slice none 0 0, .slice none 0 0]], []⟩ 8 (by kernel_rfl) (by kernel_rfl) (by kernel_rfl) (by kernel_rfl))
  · intro H ds hl
    rw [Try.params7] at hl
    match ds, hl with
    | [d0], _ => exact ⟨rfl, rfl, rfl⟩
  · intro W base args H enc ds p hval hA hlt
    rw [Try.params7] at hA hval
    obtain ⟨v0, vs0, e0, es0, p0, q0, hargs, rfl, rfl, h0, r0⟩ := trodAll_cons hA
    obtain ⟨rfl, rfl, rfl⟩ := trodAll_nil r0
    obtain rfl : args = #[v0] := by cases args; simp_all
    obtain ⟨x0, w0⟩ := op_Module (hval 0 42 v0 rfl rfl) h0 (fun x hx => hlt x (by simp [hx]))
    exact walk_FnExactFlatOk v0 x0 W w0
theorem facts_FnExactFlatOk : joinedFacts Try.pinned.checked.prog 7 Try.f7 Rows.fnExactFlatOkSpec Rows.fnExactFlatOkRow = true :=
  facts_of (P := Try.prog) mayE liftE makeE rfl rfl (by kernel_rfl) (by kernel_rfl) (by kernel_rfl) (by kernel_rfl) (by kernel_rfl) (by kernel_rfl) (by kernel_rfl) (by kernel_rfl) (by kernel_rfl) (by kernel_rfl) (by kernel_rfl) (by kernel_rfl) (by kernel_rfl) rfl rfl (by kernel_rfl) (by kernel_rfl) (by kernel_rfl) (by kernel_rfl) (by kernel_rfl) (by kernel_rfl) (by kernel_rfl) (by kernel_rfl) (by kernel_rfl) (by kernel_rfl) (by kernel_rfl) rfl rfl (by kernel_rfl) (by kernel_rfl) (by kernel_rfl)
theorem over_FnExactFlatOk : Rows.fnExactFlatOkRow.holds Try.pinned (OpenSpec.ofChange Rows.fnExactFlatOkSpec) :=
  OpenClaim.holds_of_wide 7 Try.f7 rfl rfl rfl rfl rfl rfl rfl ⟨rfl, rfl, rfl, rfl, rfl⟩ rfl rfl rfl rfl rfl (by kernel_rfl) Try.func7 facts_FnExactFlatOk
    (of_decide_eq_true (by kernel_rfl)) (by unfold Func.isWrapper; first | (rw [if_pos (by decide +kernel)]; kernel_rfl) | (rw [if_neg (by decide +kernel)]; exact ⟨rfl, rfl⟩))
    (fun os started H enc _ => lifted_FnExactFlatOk os started H enc)
theorem FnExactFlatOk_holds : Rows.FnExactFlatOkSaid := over_FnExactFlatOk
end Go.Proofs.Ytjiijjihkgipkaa
