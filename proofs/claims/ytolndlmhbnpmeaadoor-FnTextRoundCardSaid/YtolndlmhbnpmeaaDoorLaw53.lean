/- Law of a design's text: for every code the drawn design is read out of its text, also with more spaces and empty lines, and a longer text is none. Conditions: none. -/
import Derived.Test.YtolndlmhbnpmeaaDoorFrame3
import Derived.Test.YtolndlmhbnpmeaaDoorFdd
import Derived.Test.YtolndlmhbnpmeaaDoorPsh
import Derived.Test.YtolndlmhbnpmeaaDoorGo
import Derived.Test.YtolndlmhbnpmeaaDoorSam
import Derived.Test.YtolndlmhbnpmeaaDoorDmd
import Derived.Outline
namespace Go.Proofs.YtolndlmhbnpmeaaDoor
open Go.ChangeShapes Go.WideShapes Go.ChangeAt Go.RowKit

theorem dsn_rep {w : World} {S : Nat → Prop} {v : Value} {d : TDesign} (h : RDesign w S v d) : ∃ (A : Option Addr) (n c : Nat), v = .agg #[.slice A n c] ∧ Rep w S (.slice A n c) (fModuleS d) := by
 obtain ⟨A, n, c, hv⟩ := h.form
 obtain ⟨v0, hv0, hr⟩ := h
 rw [hv] at hv0
 injection hv0 with hv0
 injection hv0 with hv0
 injection hv0 with hv0 _
 exact ⟨A, n, c, hv, hv0 ▸ hr⟩
-- a design has been read: $1 its text $2 world before $3 world after $4 box's world $5 number of the box; facts hq hb; then the box is laid
set_option maxRecDepth 100000 in
set_option maxHeartbeats 8000000 in
theorem walk_FnTextRound (A : Option Addr) (n c : Nat) (l : List UInt8) (w : World) (hr : Reads w w.heap.size 1 A n (bys l)) (hsg : SignsAt w) : Calls Tryd.prog 3 #[.slice A n c] w fun e w' => e = .returned (.bool true) ∧ Below w.heap.size w w' := by
 by_cases hb : n ≤ 1048576
 rotate_left
 ·go_enter Tryd.func3, Tryd.ntmps3
  go_wp2_with (first | (go_at_call 4; go_in))
  go_ret
  exact ⟨rfl, Below.refl _ _⟩
 go_enter Tryd.func3, Tryd.ntmps3
 go_wp2_with (first | (go_at_call 4; go_in))
 refine (s_DrawDesign hr hb).mono ?_
 rintro e w1 ⟨ov, D, p, rfl, hqd, hgd, hd1, hd3, hb1⟩
 obtain ⟨A0, n0, c0, hov, hrep⟩ := dsn_rep hqd.r
 injection hov with hov
 injection hov with hov
 injection hov with hov _
 subst hov
 have hB := hgd.designB hd1 (by omega)
 have hz : sDesign D ≤ 1048576 := by have := hgd.sz hd3; omega
 have hlen := fdT_len hB
 have H1 := Lib.hid (read_one hB)
 have H2 := Lib.hid (read_two hB)
 have H3 := Lib.hid (read_three hB)
 have HF := Lib.hid (fdR_yes hB)
 have HB := Lib.hid hB
 have Hz := Lib.hid hz
 obtain ⟨t, ht⟩ : ∃ t, t = fdT D := ⟨_, rfl⟩
 rw [← ht] at hlen H1 H2 H3 HF
 obtain ⟨W2, hW2⟩ : ∃ W2, W2 = w1.alloc (.cells #[.slice A0 n0 c0] 26) := ⟨_, rfl⟩
 obtain ⟨b3, hb3⟩ : ∃ g, g = w1.heap.size := ⟨_, rfl⟩
 have HX := Lib.hid (show Blk W2 b3 26 #[.slice A0 n0 c0] by rw [hW2, hb3]; exact Blk.new _ _ _)
 have HB2 := Lib.hid (show Below w.heap.size w W2 by rw [hW2]; exact hb1.alloc hb1.size _)
 have HR := Lib.hid (show Rep W2 (fun b => b < w1.heap.size) (.slice A0 n0 c0) (fModuleS D) by rw [hW2]; exact (hrep.mono (fun b hb => hb.2)).under (fun b hb => hb) ((Below.refl _ _).alloc (Nat.le_refl _) _))
 have z2 : w1.heap.size < W2.heap.size := by rw [hW2]; simp
 have HW2 := Lib.hid hW2
 have Hb3 := Lib.hid hb3
 have y0 := blkS1 HX.out
 rw [hW2, hb3] at y0
 clear hW2 hb3 hb1 hr hqd hgd hrep hB hz ht
 go_wp2_with fail
 rw [← HW2.out, ← Hb3.out]
 refine (i_FormatDesign Hz.out ⟨_, rfl, HR.out⟩ (fun b hb => Nat.lt_trans hb z2) (hsg.below HB2.out)).mono ?_
 rintro e w3 ⟨rfl, hb⟩
 rw [HF.out, HB.out]
 have z3 := hb.size
 have HX3 := Lib.hid (HX.out.below hb HX.out.lt)
 have HR3 := Lib.hid (HR.out.under (fun b hb => Nat.lt_trans hb z2) hb)
 have HB3 := Lib.hid (HB2.out.trans (hb.mono HB2.out.size))
 clear hb y0 HX HR HW2
 have e1 : pdB (bt t) = true := by unfold pdB; rw [H1.out]; rfl
 have e2 : pdD (bt t) = D := by unfold pdD; rw [H1.out]; rfl
 have E1 := Lib.hid e1
 have E2 := Lib.hid e2
 clear e1 e2
 go_wp2_with fail
 refine (i_ParseDesign (bt t) (by show t.toArray.size ≤ _; simp; omega) w3 (hsg.below HB3.out)).mono ?_
 rintro e w4 ⟨va, rfl, hq, hb⟩
 rw [E2.out] at hq
 rw [E1.out]
 obtain ⟨A7, n7, c7, rfl, hr7⟩ := dsn_rep hq.r
 obtain ⟨W5, hW7⟩ : ∃ x, x = w4.alloc (.cells #[.slice A7 n7 c7] 26) := ⟨_, rfl⟩
 obtain ⟨b7, hb7⟩ : ∃ g, g = w4.heap.size := ⟨_, rfl⟩
 have hbl : Below w3.heap.size w3 W5 := by rw [hW7]; exact hb.alloc hb.size _
 have HX7 := Lib.hid (show Blk W5 b7 26 #[.slice A7 n7 c7] by rw [hW7, hb7]; exact Blk.new _ _ _)
 have HW7 := Lib.hid hW7
 have Hb7 := Lib.hid hb7
 have HR7 := Lib.hid (show Rep W5 (fun b => b < w4.heap.size) (.slice A7 n7 c7) (fModuleS D) by rw [hW7]; exact (hr7.mono (fun b hb => hb.2)).under (fun b hb => hb) ((Below.refl _ _).alloc (Nat.le_refl _) _))
 have z5 := hbl.size
 have HXd := Lib.hid (HX3.out.below hbl HX3.out.lt)
 have HRd := Lib.hid (HR3.out.under (fun b hb => by omega) hbl)
 have HB5 := Lib.hid (HB3.out.trans (hbl.mono HB3.out.size))
 have z45 : w4.heap.size < W5.heap.size := by rw [hW7]; simp
 have zb7 := HX7.out.lt
 clear hq hb hbl hr7 hW7 hb7
 obtain ⟨t1, ht1⟩ : ∃ x, x = [10, 32] ++ t := ⟨_, rfl⟩
 obtain ⟨t2, ht2⟩ : ∃ x, x = t1 ++ [32, 32, 10, 10] := ⟨_, rfl⟩
 have hl1 : t1.length ≤ 17602 := by rw [ht1, List.length_append]; show 2 + t.length ≤ 17602; omega
 have hl2 : t2.length ≤ 17606 := by rw [ht2, List.length_append]; show t1.length + 4 ≤ 17606; omega
 have hcat1 : (⟨#[10, 32]⟩ : ByteArray) ++ ⟨t.toArray⟩ = ⟨t1.toArray⟩ := by rw [ht1]; exact cat_two [10, 32] t
 have hcat2 : (⟨t1.toArray⟩ : ByteArray) ++ ⟨#[32, 32, 10, 10]⟩ = ⟨t2.toArray⟩ := by rw [ht2]; exact cat_two t1 [32, 32, 10, 10]
 have hsum1 : 2 + (t.length : Int) ≤ 8388608 := by omega
 have hsum2 : (t1.length : Int) + 4 ≤ 8388608 := by omega
 have e2 : pdO (bt t2) = some D := by rw [ht2, ht1, List.append_assoc]; exact H2.out
 have E3 := Lib.hid (show pdB (bt t2) = true by unfold pdB; rw [e2]; rfl)
 have E4 := Lib.hid (show pdD (bt t2) = D by unfold pdD; rw [e2]; rfl)
 clear ht1 ht2 e2
 go_wp2_with fail
 rw [← HW7.out, ← Hb7.out]
 clear hcat1 hcat2 hsum1 hsum2
 refine (i_ParseDesign (bt t2) (by show t2.toArray.size ≤ _; simp; omega) W5 (hsg.below HB5.out)).mono ?_
 rintro e w6 ⟨vb, rfl, hq, hb⟩
 rw [E4.out] at hq
 rw [E3.out]
 obtain ⟨A9, n9, c9, rfl, hr9⟩ := dsn_rep hq.r
 obtain ⟨W7, hW9⟩ : ∃ x, x = w6.alloc (.cells #[.slice A9 n9 c9] 26) := ⟨_, rfl⟩
 obtain ⟨b9, hb9⟩ : ∃ g, g = w6.heap.size := ⟨_, rfl⟩
 have hbl : Below W5.heap.size W5 W7 := by rw [hW9]; exact hb.alloc hb.size _
 have HX9 := Lib.hid (show Blk W7 b9 26 #[.slice A9 n9 c9] by rw [hW9, hb9]; exact Blk.new _ _ _)
 have HW9 := Lib.hid hW9
 have Hb9 := Lib.hid hb9
 have HR9 := Lib.hid (show Rep W7 (fun b => b < w6.heap.size) (.slice A9 n9 c9) (fModuleS D) by rw [hW9]; exact (hr9.mono (fun b hb => hb.2)).under (fun b hb => hb) ((Below.refl _ _).alloc (Nat.le_refl _) _))
 have z7 := hbl.size
 have HXd := Lib.hid (HXd.out.below hbl HXd.out.lt)
 have HXa := Lib.hid (HX7.out.below hbl HX7.out.lt)
 have HRd := Lib.hid (HRd.out.under (fun b hb => by omega) hbl)
 have HRa := Lib.hid (HR7.out.under (fun b hb => by omega) hbl)
 have HB7 := Lib.hid (HB5.out.trans (hbl.mono HB5.out.size))
 have z67 : w6.heap.size < W7.heap.size := by rw [hW9]; simp
 have zb9 := HX9.out.lt
 clear hq hb hbl hr9 hW9 hb9
 obtain ⟨t3, ht3⟩ : ∃ x, x = t ++ [120] := ⟨_, rfl⟩
 have hl3 : t3.length ≤ 17601 := by rw [ht3, List.length_append]; show t.length + 1 ≤ 17601; omega
 have hcat3 : (⟨t.toArray⟩ : ByteArray) ++ ⟨#[120]⟩ = ⟨t3.toArray⟩ := by rw [ht3]; exact cat_two t [120]
 have hsum3 : (t.length : Int) + 1 ≤ 8388608 := by omega
 have E5 := Lib.hid (show pdB (bt t3) = false by unfold pdB; rw [ht3, H3.out]; rfl)
 clear ht3
 go_wp2_with fail
 rw [← HW9.out, ← Hb9.out]
 clear hcat3 hsum3
 refine (i_ParseDesign (bt t3) (by show t3.toArray.size ≤ _; simp; omega) W7 (hsg.below HB7.out)).mono ?_
 rintro e w8 ⟨vc, rfl, hq, hb⟩
 rw [E5.out]
 obtain ⟨Ac, nc, cc, rfl, _⟩ := dsn_rep hq.r
 obtain ⟨W9, hW9⟩ : ∃ x, x = w8.alloc (.cells #[.slice Ac nc cc] 26) := ⟨_, rfl⟩
 have hbl : Below W7.heap.size W7 W9 := by rw [hW9]; exact hb.alloc hb.size _
 have HW := Lib.hid hW9
 have HXd := Lib.hid (HXd.out.below hbl HXd.out.lt)
 have HXa := Lib.hid (HXa.out.below hbl HXa.out.lt)
 have HXb := Lib.hid (HX9.out.below hbl HX9.out.lt)
 have HRd := Lib.hid (HRd.out.under (fun b hb => by omega) hbl)
 have HRa := Lib.hid (HRa.out.under (fun b hb => by omega) hbl)
 have HRb := Lib.hid (HR9.out.under (fun b hb => by omega) hbl)
 have HB9 := Lib.hid (HB7.out.trans (hbl.mono HB7.out.size))
 have z9 := hbl.size
 have y3 := blkS1 HXd.out
 have y7 := blkS1 HXa.out
 rw [HW.out] at y3 y7
 clear hq hb hbl hW9
 go_wp2_with fail
 rw [← HW.out]
 refine (m_sameModules HRa.out HRd.out (fun b hb => by omega) (fun b hb => by omega)).mono ?_
 rintro e wx ⟨rfl, hbx⟩
 have HBx := Lib.hid hbx
 have zx := hbx.size
 clear hbx y3 y7
 have y3 := blkS1 (HXd.out.below HBx.out HXd.out.lt)
 have y9 := blkS1 (HXb.out.below HBx.out HXb.out.lt)
 go_wp2_with fail
 refine (m_sameModules (HRb.out.under (fun b hb => by omega) HBx.out) (HRd.out.under (fun b hb => by omega) HBx.out) (fun b hb => by omega) (fun b hb => by omega)).mono ?_
 rintro e wy ⟨rfl, hby⟩
 have HBy := Lib.hid (show Below W9.heap.size W9 wy from HBx.out.trans (hby.mono zx))
 clear hby y3 y9
 go_wp2_with fail
 go_ret
 exact ⟨rfl, HB9.out.trans (HBy.out.mono HB9.out.size)⟩
set_option maxRecDepth 100000 in
theorem lifted_FnTextRound (os : Os) (started : os.Started) (H : Type) (enc : TypeId × Value → H) :
  ReturnsInHanded {} Tryd.checked os 3 .any (fun w args => (Rows.fnTextRoundSpec.pre enc Tryd.prog Tryd.f3 Rows.fnTextRoundRow.domain false w args ∧ laidMetH Tryd.prog signsLaid w) ∧ sizedMet enc Tryd.prog Tryd.f3 (OpenSpec.ofChange Rows.fnTextRoundSpec) false w args) (Rows.fnTextRoundSpec.post enc Tryd.prog Tryd.f3 false true false false) := by
 refine liftV (F := 3) (fn := Tryd.f3) (s := Rows.fnTextRoundSpec) (conds := Rows.fnTextRoundRow.domain) (by kernel_rfl) Tryd.func3 (by kernel_rfl) rfl (by kernel_rfl) (by kernel_rfl) ?_ ?_ os started H enc
  (ChangeSpec.witness_shaped (enc := enc) (C := Tryd.checked) (os := os) (X := fun w _ => laidMetH Tryd.prog signsLaid w) false (World.laidAll Tryd.prog os signsLaid) #[.slice none 0 0] 8 (World.laidAll_os _ _ _) (World.shaped_of_ZipB (by kernel_rfl) (by kernel_rfl)) (by kernel_rfl) (by kernel_rfl) (by kernel_rfl)
   (by rw [MakeChecks.laidMetH_plain _ _ _ (by kernel_rfl)]; exact laidMet_laidAll _ (by kernel_rfl) (by kernel_rfl)))
 ·intro H ds g hl
  rw [Tryd.params3] at hl
  match ds, hl with
  | [d0], _ => exact ⟨rfl, rfl, rfl⟩
 ·intro W base args H enc ds p hval hA hlt hsg
  rw [Tryd.params3] at hA hval
  obtain ⟨v0, vs0, e0, es0, p0, q0, hargs, rfl, rfl, h0, r0⟩ := trodAll_cons hA
  obtain ⟨rfl, rfl, rfl⟩ := trodAll_nil r0
  obtain rfl : args = #[v0] := by cases args; simp_all
  obtain ⟨A0, n0, c0, l, rfl, w0⟩ := op_bytes Tryd.underlying22 Tryd.underlying5 (by kernel_rfl) (hval 0 22 v0 rfl rfl) h0 (fun x hx => hlt x (by simp [hx]))
  exact walk_FnTextRound A0 n0 c0 l W w0 hsg
theorem facts_FnTextRound : joinedFacts Tryd.pinned.checked.prog 3 Tryd.f3 Rows.fnTextRoundSpec Rows.fnTextRoundRow = true :=
 facts_ofV (P := Tryd.prog) (vs := [38]) mayE liftE makeE rfl rfl (by kernel_rfl) (by kernel_rfl) (by kernel_rfl) (by kernel_rfl) (by kernel_rfl) (by kernel_rfl) (by kernel_rfl) (by kernel_rfl) (by kernel_rfl) (by kernel_rfl) (by kernel_rfl) (by kernel_rfl) (by kernel_rfl) (by kernel_rfl) (by kernel_rfl) (by kernel_rfl) (by kernel_rfl) (by kernel_rfl) (by kernel_rfl) (by kernel_rfl) (by kernel_rfl) (by kernel_rfl) (by kernel_rfl) (by kernel_rfl) (by kernel_rfl) (by kernel_rfl) rfl rfl (by kernel_rfl) (by kernel_rfl) (by kernel_rfl)
theorem over_FnTextRound : Rows.fnTextRoundRow.holds Tryd.pinned (OpenSpec.ofChange Rows.fnTextRoundSpec) :=
 OpenClaim.holds_of_wide 3 Tryd.f3 rfl rfl rfl rfl rfl rfl rfl ⟨rfl, rfl, rfl, rfl, rfl⟩ rfl rfl rfl rfl rfl (by kernel_rfl) Tryd.func3 facts_FnTextRound
  (of_decide_eq_true (by kernel_rfl)) (by unfold Func.isWrapper; first | (rw [if_pos (by decide +kernel)]; kernel_rfl) | (rw [if_neg (by decide +kernel)]; exact ⟨rfl, rfl⟩))
  (fun os started H enc _ => lifted_FnTextRound os started H enc)
theorem FnTextRound_holds : Rows.FnTextRoundCardSaid :=
 Claim7.holds_tied_plain_at .later [] [.data] true (true, Rows.fnTextRoundCard.stood.harness.2) false over_FnTextRound (fun _ h => by cases h) (by kernel_rfl) (fun _ h => by cases h) fnTextRound_row_tie rfl ⟨rfl, rfl⟩ (by kernel_rfl) rfl
  (fun f fn hf hfn => by
   obtain rfl : f = 3 := Option.some.inj ((show Tryd.prog.funcNamed "loop.example/g03311/laws.FnTextRound" = some 3 by kernel_rfl).symm.trans hf) |>.symm
   obtain rfl : fn = Tryd.f3 := (Option.some.inj (Tryd.func3.symm.trans hfn)).symm
   exact ⟨by kernel_rfl, fun j t ht => by
    have hall : (Tryd.f3.params.toList.all fun u => !Tryd.prog.wantsStandIn u) = true := by kernel_rfl
    have hm : t ∈ Tryd.f3.params.toList := by rw [Array.mem_toList_iff]; exact Array.mem_of_getElem? ht
    exact (show Tryd.prog.wantsStandIn t = false by simpa using List.all_eq_true.1 hall t hm)⟩)
  (by kernel_rfl)
end Go.Proofs.YtolndlmhbnpmeaaDoor
