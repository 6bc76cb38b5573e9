/- Law of the sample net: the program's SampleNet returns the reference's, in memory of its own. Conditions: none. -/
import Derived.Test.YtimccjpggcgklaaFrame2
import Derived.Test.YtimccjpggcgklaaSmn
import Derived.Test.YtimccjpggcgklaaLawK
import Derived.Outline
namespace Go.Proofs.Ytimccjpggcgklaa
open Go.ChangeShapes Go.WideShapes Go.ChangeAt Go.RowKit

set_option maxRecDepth 100000 in
set_option maxHeartbeats 8000000 in
theorem walk_FnExactSampleNet  (w : World)  :
    Calls Try.prog 6 #[] w fun e w' => e = .returned (.bool true) ∧ Below w.heap.size w w' := by
  have HB0 := Lib.hid (Below.refl w.heap.size w)
  go_enter Try.func6, Try.ntmps6
  go_wp2_with fail
  refine (s_SampleNet _).mono ?_
  rintro e w1 ⟨vw1_0, rfl, hqw1_0, hb1⟩
  obtain ⟨aw1_0_0, Aw1_0_1, nw1_0_1, cw1_0_1, Aw1_0_2, nw1_0_2, cw1_0_2, Aw1_0_3, nw1_0_3, cw1_0_3, rfl⟩ := hqw1_0.r.form
  have HQw1_0 := Lib.hid (QNet.mono hqw1_0 (S' := Iv (w.heap.size) (w1.heap.size)) (fun b hb => by have := hb; simp [New] at this; exact ⟨by omega, this.2⟩))
  clear hqw1_0
  have zw1 := hb1.size
  try simp at zw1
  have HB1 := Lib.hid (HB0.out.trans (hb1.mono (by have := HB0.out.size; (try simp) <;> omega)))
  clear HB0
  clear hb1
  have H3 := Lib.hid (QNet.keep HQw1_0.out (w' := (w1.alloc (.cells #[.int .i64 aw1_0_0, .slice Aw1_0_1 nw1_0_1 cw1_0_1, .slice Aw1_0_2 nw1_0_2 cw1_0_2, .slice Aw1_0_3 nw1_0_3 cw1_0_3] 41))) (fun b hb => Below.heap_alloc _ _ b (by have := hb; simp only [Iv] at this; (try simp) <;> omega)))
  clear HQw1_0
  have HB4 := Lib.hid (HB1.out.alloc (by have := HB1.out.size; (try simp) <;> omega) (.cells #[.int .i64 aw1_0_0, .slice Aw1_0_1 nw1_0_1 cw1_0_1, .slice Aw1_0_2 nw1_0_2 cw1_0_2, .slice Aw1_0_3 nw1_0_3 cw1_0_3] 41))
  clear HB1
  have HX2 := Lib.hid (show Blk (w1.alloc (.cells #[.int .i64 aw1_0_0, .slice Aw1_0_1 nw1_0_1 cw1_0_1, .slice Aw1_0_2 nw1_0_2 cw1_0_2, .slice Aw1_0_3 nw1_0_3 cw1_0_3] 41)) (w1.heap.size) 41 #[.int .i64 aw1_0_0, .slice Aw1_0_1 nw1_0_1 cw1_0_1, .slice Aw1_0_2 nw1_0_2 cw1_0_2, .slice Aw1_0_3 nw1_0_3 cw1_0_3] from by have h := Blk.new (w1) 41 #[.int .i64 aw1_0_0, .slice Aw1_0_1 nw1_0_1 cw1_0_1, .slice Aw1_0_2 nw1_0_2 cw1_0_2, .slice Aw1_0_3 nw1_0_3 cw1_0_3]; simpa using h)
  go_wp2_with fail
  refine (i_SampleNet _).mono ?_
  rintro e w2 ⟨vw2_0, rfl, hqw2_0, hb2⟩
  obtain ⟨aw2_0_0, Aw2_0_1, nw2_0_1, cw2_0_1, Aw2_0_2, nw2_0_2, cw2_0_2, Aw2_0_3, nw2_0_3, cw2_0_3, rfl⟩ := hqw2_0.r.form
  have HQw2_0 := Lib.hid (QNet.mono hqw2_0 (S' := Iv (w1.heap.size + 1) (w2.heap.size)) (fun b hb => by have := hb; simp [New] at this; exact ⟨by omega, this.2⟩))
  clear hqw2_0
  have zw2 := hb2.size
  try simp at zw2
  have H5 := Lib.hid (QNet.keep H3.out (w' := w2) (fun b hb => hb2.block b (by have := hb; simp only [Iv] at this; (try simp) <;> omega)))
  clear H3
  have H6 := Lib.hid (HX2.out.below hb2 HX2.out.lt)
  clear HX2
  have HB7 := Lib.hid (HB4.out.trans (hb2.mono (by have := HB4.out.size; (try simp) <;> omega)))
  clear HB4
  clear hb2
  have H9 := Lib.hid (QNet.keep H5.out (w' := (w2.alloc (.cells #[.int .i64 aw2_0_0, .slice Aw2_0_1 nw2_0_1 cw2_0_1, .slice Aw2_0_2 nw2_0_2 cw2_0_2, .slice Aw2_0_3 nw2_0_3 cw2_0_3] 41))) (fun b hb => Below.heap_alloc _ _ b (by have := hb; simp only [Iv] at this; (try simp) <;> omega)))
  clear H5
  have H10 := Lib.hid (H6.out.alloc (.cells #[.int .i64 aw2_0_0, .slice Aw2_0_1 nw2_0_1 cw2_0_1, .slice Aw2_0_2 nw2_0_2 cw2_0_2, .slice Aw2_0_3 nw2_0_3 cw2_0_3] 41))
  clear H6
  have H11 := Lib.hid (QNet.keep HQw2_0.out (w' := (w2.alloc (.cells #[.int .i64 aw2_0_0, .slice Aw2_0_1 nw2_0_1 cw2_0_1, .slice Aw2_0_2 nw2_0_2 cw2_0_2, .slice Aw2_0_3 nw2_0_3 cw2_0_3] 41))) (fun b hb => Below.heap_alloc _ _ b (by have := hb; simp only [Iv] at this; (try simp) <;> omega)))
  clear HQw2_0
  have HB12 := Lib.hid (HB7.out.alloc (by have := HB7.out.size; (try simp) <;> omega) (.cells #[.int .i64 aw2_0_0, .slice Aw2_0_1 nw2_0_1 cw2_0_1, .slice Aw2_0_2 nw2_0_2 cw2_0_2, .slice Aw2_0_3 nw2_0_3 cw2_0_3] 41))
  clear HB7
  have HX8 := Lib.hid (show Blk (w2.alloc (.cells #[.int .i64 aw2_0_0, .slice Aw2_0_1 nw2_0_1 cw2_0_1, .slice Aw2_0_2 nw2_0_2 cw2_0_2, .slice Aw2_0_3 nw2_0_3 cw2_0_3] 41)) (w2.heap.size) 41 #[.int .i64 aw2_0_0, .slice Aw2_0_1 nw2_0_1 cw2_0_1, .slice Aw2_0_2 nw2_0_2 cw2_0_2, .slice Aw2_0_3 nw2_0_3 cw2_0_3] from by have h := Blk.new (w2) 41 #[.int .i64 aw2_0_0, .slice Aw2_0_1 nw2_0_1 cw2_0_1, .slice Aw2_0_2 nw2_0_2 cw2_0_2, .slice Aw2_0_3 nw2_0_3 cw2_0_3]; simpa using h)
  obtain ⟨yHX8_0, yHX8_1, yHX8_2, yHX8_3⟩ := blkS4 HX8.out
  obtain ⟨yH10_0, yH10_1, yH10_2, yH10_3⟩ := blkS4 H10.out
  go_wp2_with fail
  refine (d_eqNet ((by decide)) H11.out.r H9.out.r (fun b hb => by have := hb; simp only [Iv] at this; (try simp) <;> omega) (fun b hb => by have := hb; simp only [Iv] at this; (try simp) <;> omega)).mono ?_
  rintro e w3 ⟨rfl, hb3⟩
  have zw3 := hb3.size
  try simp at zw3
  have H13 := Lib.hid (QNet.keep H9.out (w' := w3) (fun b hb => hb3.block b (by have := hb; simp only [Iv] at this; (try simp) <;> omega)))
  clear H9
  have H14 := Lib.hid (H10.out.below hb3 H10.out.lt)
  clear H10
  have H15 := Lib.hid (QNet.keep H11.out (w' := w3) (fun b hb => hb3.block b (by have := hb; simp only [Iv] at this; (try simp) <;> omega)))
  clear H11
  have H16 := Lib.hid (HX8.out.below hb3 HX8.out.lt)
  clear HX8
  have HB17 := Lib.hid (HB12.out.trans (hb3.mono (by have := HB12.out.size; (try simp) <;> omega)))
  clear HB12
  clear hb3
  clear yHX8_0 yHX8_1 yHX8_2 yHX8_3 yH10_0 yH10_1 yH10_2 yH10_3
  obtain ⟨yH16_0, yH16_1, yH16_2, yH16_3⟩ := blkS4 H16.out
  go_wp2_with fail
  have hmb18 : nNet (sampleN) ≤ 8388608 := by have h1 := nNet_le (sampleN); have h2 : sNet (sampleN) ≤ 1048576 := (by decide); omega
  refine (d_markNet (1) (by omega) H15.out (fun b hb => by have := hb; simp only [Iv] at this; (try simp) <;> omega)).mono ?_
  rintro e w4 ⟨rfl, hqw4, hb4⟩
  obtain ⟨mk19, hmk19⟩ : ∃ zz, zz = 1 + nNet (sampleN) := ⟨_, rfl⟩
  rw [← hmk19]
  have hmk19b : mk19 ≤ 1073741824 := by omega
  have HMmk19 := Lib.hid hmk19
  clear hmk19 hmb18
  clear H15
  have zw4 := hb4.size
  try simp at zw4
  have H20 := Lib.hid (QNet.keep H13.out (w' := w4) (fun b hb => hb4.block b (by have := hb; simp only [Iv] at this; (try simp) <;> omega) (fun hc => by have := hb; simp only [Iv] at this; simp only [Iv] at hc; omega)))
  clear H13
  have H21 := Lib.hid (hb4.blk H14.out (fun hc => by simp only [Iv] at hc; (try simp at hc) <;> omega))
  clear H14
  have H22 := Lib.hid (hb4.blk H16.out (fun hc => by simp only [Iv] at hc; (try simp at hc) <;> omega))
  clear H16
  have HB23 := Lib.hid (HB17.out.trans (hb4.below (by have := HB17.out.size; (try simp) <;> omega) (fun b hb => by simp only [Iv] at hb; omega)))
  clear HB17
  clear hb4
  have HQw4 := Lib.hid hqw4
  clear hqw4
  clear yH16_0 yH16_1 yH16_2 yH16_3
  obtain ⟨yH22_0, yH22_1, yH22_2, yH22_3⟩ := blkS4 H22.out
  go_wp2_with fail
  have hmb24 : 1 + nNet (sampleN) ≤ 1099511627776 := by rw [← HMmk19.out]; omega
  refine (d_heldNet (1) (by omega) HQw4.out.r (fun b hb => by have := hb; simp only [Iv] at this; (try simp) <;> omega)).mono ?_
  rintro e w5 ⟨rfl, hb5⟩
  rw [← HMmk19.out]
  clear hmb24
  have zw5 := hb5.size
  try simp at zw5
  have H25 := Lib.hid (QNet.keep H20.out (w' := w5) (fun b hb => hb5.block b (by have := hb; simp only [Iv] at this; (try simp) <;> omega)))
  clear H20
  have H26 := Lib.hid (H21.out.below hb5 H21.out.lt)
  clear H21
  have H27 := Lib.hid (H22.out.below hb5 H22.out.lt)
  clear H22
  have H28 := Lib.hid (QNet.keep HQw4.out (w' := w5) (fun b hb => hb5.block b (by have := hb; simp only [Iv] at this; (try simp) <;> omega)))
  clear HQw4
  have HB29 := Lib.hid (HB23.out.trans (hb5.mono (by have := HB23.out.size; (try simp) <;> omega)))
  clear HB23
  clear hb5
  clear yH22_0 yH22_1 yH22_2 yH22_3
  go_wp2_with fail
  refine (i_SampleNet _).mono ?_
  rintro e w6 ⟨vw6_0, rfl, hqw6_0, hb6⟩
  obtain ⟨aw6_0_0, Aw6_0_1, nw6_0_1, cw6_0_1, Aw6_0_2, nw6_0_2, cw6_0_2, Aw6_0_3, nw6_0_3, cw6_0_3, rfl⟩ := hqw6_0.r.form
  have HQw6_0 := Lib.hid (QNet.mono hqw6_0 (S' := Iv (w5.heap.size) (w6.heap.size)) (fun b hb => by have := hb; simp [New] at this; exact ⟨by omega, this.2⟩))
  clear hqw6_0
  have zw6 := hb6.size
  try simp at zw6
  have H30 := Lib.hid (QNet.keep H25.out (w' := w6) (fun b hb => hb6.block b (by have := hb; simp only [Iv] at this; (try simp) <;> omega)))
  clear H25
  have H31 := Lib.hid (H26.out.below hb6 H26.out.lt)
  clear H26
  have H32 := Lib.hid (H27.out.below hb6 H27.out.lt)
  clear H27
  have H33 := Lib.hid (QNet.keep H28.out (w' := w6) (fun b hb => hb6.block b (by have := hb; simp only [Iv] at this; (try simp) <;> omega)))
  clear H28
  have HB34 := Lib.hid (HB29.out.trans (hb6.mono (by have := HB29.out.size; (try simp) <;> omega)))
  clear HB29
  clear hb6
  have H36 := Lib.hid (QNet.keep H30.out (w' := (w6.alloc (.cells #[.int .i64 aw6_0_0, .slice Aw6_0_1 nw6_0_1 cw6_0_1, .slice Aw6_0_2 nw6_0_2 cw6_0_2, .slice Aw6_0_3 nw6_0_3 cw6_0_3] 41))) (fun b hb => Below.heap_alloc _ _ b (by have := hb; simp only [Iv] at this; (try simp) <;> omega)))
  clear H30
  have H37 := Lib.hid (H31.out.alloc (.cells #[.int .i64 aw6_0_0, .slice Aw6_0_1 nw6_0_1 cw6_0_1, .slice Aw6_0_2 nw6_0_2 cw6_0_2, .slice Aw6_0_3 nw6_0_3 cw6_0_3] 41))
  clear H31
  have H38 := Lib.hid (H32.out.alloc (.cells #[.int .i64 aw6_0_0, .slice Aw6_0_1 nw6_0_1 cw6_0_1, .slice Aw6_0_2 nw6_0_2 cw6_0_2, .slice Aw6_0_3 nw6_0_3 cw6_0_3] 41))
  clear H32
  have H39 := Lib.hid (QNet.keep H33.out (w' := (w6.alloc (.cells #[.int .i64 aw6_0_0, .slice Aw6_0_1 nw6_0_1 cw6_0_1, .slice Aw6_0_2 nw6_0_2 cw6_0_2, .slice Aw6_0_3 nw6_0_3 cw6_0_3] 41))) (fun b hb => Below.heap_alloc _ _ b (by have := hb; simp only [Iv] at this; (try simp) <;> omega)))
  clear H33
  have H40 := Lib.hid (QNet.keep HQw6_0.out (w' := (w6.alloc (.cells #[.int .i64 aw6_0_0, .slice Aw6_0_1 nw6_0_1 cw6_0_1, .slice Aw6_0_2 nw6_0_2 cw6_0_2, .slice Aw6_0_3 nw6_0_3 cw6_0_3] 41))) (fun b hb => Below.heap_alloc _ _ b (by have := hb; simp only [Iv] at this; (try simp) <;> omega)))
  clear HQw6_0
  have HB41 := Lib.hid (HB34.out.alloc (by have := HB34.out.size; (try simp) <;> omega) (.cells #[.int .i64 aw6_0_0, .slice Aw6_0_1 nw6_0_1 cw6_0_1, .slice Aw6_0_2 nw6_0_2 cw6_0_2, .slice Aw6_0_3 nw6_0_3 cw6_0_3] 41))
  clear HB34
  have HX35 := Lib.hid (show Blk (w6.alloc (.cells #[.int .i64 aw6_0_0, .slice Aw6_0_1 nw6_0_1 cw6_0_1, .slice Aw6_0_2 nw6_0_2 cw6_0_2, .slice Aw6_0_3 nw6_0_3 cw6_0_3] 41)) (w6.heap.size) 41 #[.int .i64 aw6_0_0, .slice Aw6_0_1 nw6_0_1 cw6_0_1, .slice Aw6_0_2 nw6_0_2 cw6_0_2, .slice Aw6_0_3 nw6_0_3 cw6_0_3] from by have h := Blk.new (w6) 41 #[.int .i64 aw6_0_0, .slice Aw6_0_1 nw6_0_1 cw6_0_1, .slice Aw6_0_2 nw6_0_2 cw6_0_2, .slice Aw6_0_3 nw6_0_3 cw6_0_3]; simpa using h)
  obtain ⟨yHX35_0, yHX35_1, yHX35_2, yHX35_3⟩ := blkS4 HX35.out
  obtain ⟨yH37_0, yH37_1, yH37_2, yH37_3⟩ := blkS4 H37.out
  go_wp2_with fail
  refine (d_eqNet ((by decide)) H40.out.r H36.out.r (fun b hb => by have := hb; simp only [Iv] at this; (try simp) <;> omega) (fun b hb => by have := hb; simp only [Iv] at this; (try simp) <;> omega)).mono ?_
  rintro e w7 ⟨rfl, hb7⟩
  have zw7 := hb7.size
  try simp at zw7
  have H42 := Lib.hid (QNet.keep H36.out (w' := w7) (fun b hb => hb7.block b (by have := hb; simp only [Iv] at this; (try simp) <;> omega)))
  clear H36
  have H43 := Lib.hid (H37.out.below hb7 H37.out.lt)
  clear H37
  have H44 := Lib.hid (H38.out.below hb7 H38.out.lt)
  clear H38
  have H45 := Lib.hid (QNet.keep H39.out (w' := w7) (fun b hb => hb7.block b (by have := hb; simp only [Iv] at this; (try simp) <;> omega)))
  clear H39
  have H46 := Lib.hid (QNet.keep H40.out (w' := w7) (fun b hb => hb7.block b (by have := hb; simp only [Iv] at this; (try simp) <;> omega)))
  clear H40
  have H47 := Lib.hid (HX35.out.below hb7 HX35.out.lt)
  clear HX35
  have HB48 := Lib.hid (HB41.out.trans (hb7.mono (by have := HB41.out.size; (try simp) <;> omega)))
  clear HB41
  clear hb7
  clear yHX35_0 yHX35_1 yHX35_2 yHX35_3 yH37_0 yH37_1 yH37_2 yH37_3
  obtain ⟨yH44_0, yH44_1, yH44_2, yH44_3⟩ := blkS4 H44.out
  go_wp2_with fail
  have hmb49 : 1 + nNet (sampleN) ≤ 1099511627776 := by rw [← HMmk19.out]; omega
  refine (d_heldNet (1) (by omega) H45.out.r (fun b hb => by have := hb; simp only [Iv] at this; (try simp) <;> omega)).mono ?_
  rintro e w8 ⟨rfl, hb8⟩
  rw [← HMmk19.out]
  clear hmb49
  have zw8 := hb8.size
  try simp at zw8
  have H50 := Lib.hid (QNet.keep H42.out (w' := w8) (fun b hb => hb8.block b (by have := hb; simp only [Iv] at this; (try simp) <;> omega)))
  clear H42
  have H51 := Lib.hid (H43.out.below hb8 H43.out.lt)
  clear H43
  have H52 := Lib.hid (H44.out.below hb8 H44.out.lt)
  clear H44
  have H53 := Lib.hid (QNet.keep H45.out (w' := w8) (fun b hb => hb8.block b (by have := hb; simp only [Iv] at this; (try simp) <;> omega)))
  clear H45
  have H54 := Lib.hid (QNet.keep H46.out (w' := w8) (fun b hb => hb8.block b (by have := hb; simp only [Iv] at this; (try simp) <;> omega)))
  clear H46
  have H55 := Lib.hid (H47.out.below hb8 H47.out.lt)
  clear H47
  have HB56 := Lib.hid (HB48.out.trans (hb8.mono (by have := HB48.out.size; (try simp) <;> omega)))
  clear HB48
  clear hb8
  clear yH44_0 yH44_1 yH44_2 yH44_3
  go_wp2_with fail
  go_ret
  exact ⟨rfl, HB56.out⟩
set_option maxRecDepth 100000 in
theorem lifted_FnExactSampleNet (os : Os) (started : os.Started) (H : Type) (enc : TypeId × Value → H) :
    ReturnsInHanded {} Try.checked os 6 .any (Rows.fnExactSampleNetSpec.pre6 enc Try.prog Try.f6 Rows.fnExactSampleNetRow.domain false) (Rows.fnExactSampleNetSpec.post enc Try.prog Try.f6 false true false false) := by
  refine lift (F := 6) (fn := Try.f6) (s := Rows.fnExactSampleNetSpec) (conds := Rows.fnExactSampleNetRow.domain) (by kernel_rfl) Try.func6 (by kernel_rfl) rfl (by kernel_rfl) ?_ ?_ os started H enc
    (ChangeSpec.witness6 (enc := enc) (C := Try.checked) false ⟨#[], #[], []⟩ 8 (by kernel_rfl) (by kernel_rfl) (by kernel_rfl) (by kernel_rfl))
  · intro H ds hl
    rw [Try.params6] at hl
    obtain rfl : ds = [] := List.eq_nil_of_length_eq_zero hl
    exact ⟨rfl, rfl, rfl⟩
  · intro W base args H enc ds p hval hA hlt
    rw [Try.params6] at hA hval
    obtain ⟨rfl, rfl, rfl⟩ := trodAll_none hA
    exact walk_FnExactSampleNet  W
theorem facts_FnExactSampleNet : joinedFacts Try.pinned.checked.prog 6 Try.f6 Rows.fnExactSampleNetSpec Rows.fnExactSampleNetRow = true :=
  facts_of (P := Try.prog) mayE liftE makeE rfl rfl (by kernel_rfl) (by kernel_rfl) (by kernel_rfl) (by kernel_rfl) (by kernel_rfl) (by kernel_rfl) (by kernel_rfl) (by kernel_rfl) (by kernel_rfl) (by kernel_rfl) (by kernel_rfl) (by kernel_rfl) (by kernel_rfl) rfl rfl (by kernel_rfl) (by kernel_rfl) (by kernel_rfl) (by kernel_rfl) (by kernel_rfl) (by kernel_rfl) (by kernel_rfl) (by kernel_rfl) (by kernel_rfl) (by kernel_rfl) (by kernel_rfl) rfl rfl (by kernel_rfl) (by kernel_rfl) (by kernel_rfl)
theorem over_FnExactSampleNet : Rows.fnExactSampleNetRow.holds Try.pinned (OpenSpec.ofChange Rows.fnExactSampleNetSpec) :=
  OpenClaim.holds_of_wide 6 Try.f6 rfl rfl rfl rfl rfl rfl rfl ⟨rfl, rfl, rfl, rfl, rfl⟩ rfl rfl rfl rfl rfl (by kernel_rfl) Try.func6 facts_FnExactSampleNet
    (of_decide_eq_true (by kernel_rfl)) (by unfold Func.isWrapper; first | (rw [if_pos (by decide +kernel)]; kernel_rfl) | (rw [if_neg (by decide +kernel)]; exact ⟨rfl, rfl⟩))
    (fun os started H enc _ => lifted_FnExactSampleNet os started H enc)
theorem FnExactSampleNet_holds : Rows.FnExactSampleNetSaid := over_FnExactSampleNet
end Go.Proofs.Ytimccjpggcgklaa
