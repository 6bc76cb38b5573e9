/- Law of operator words: for every code the drawn operator is read out of its word, and out of no longer one. Conditions: none. -/
import Derived.Test.YtkidchinoilgdaaDoorFrame3
import Derived.Test.YtkidchinoilgdaaDoorDop
import Derived.Test.YtkidchinoilgdaaDoorPopJ
import Derived.Test.YtkidchinoilgdaaDoorStructOp
import Derived.Outline
namespace Go.Proofs.YtkidchinoilgdaaDoor
open Go.ChangeShapes Go.WideShapes Go.ChangeAt Go.RowKit

theorem noX_chk : allOps (fun k a b => (opTx k a b).all (fun c => c != 120)) = true := by decide +kernel
theorem noX {k a b : Int} (h : opB k a b 30 = true) : ∀ c ∈ opTx k a b, c ≠ 120 := by
 obtain ⟨h0, h1, h2, h3, h4, h5⟩ := opB_bd h
 obtain ⟨k, rfl⟩ := Int.eq_ofNat_of_zero_le h0
 obtain ⟨a, rfl⟩ := Int.eq_ofNat_of_zero_le h2
 obtain ⟨b, rfl⟩ := Int.eq_ofNat_of_zero_le h4
 have h6 := allOps_at noX_chk (k := k) (a := a) (b := b) (by omega) (by omega) (by omega) h
 intro c hc
 have := List.all_eq_true.1 h6 c hc
 simpa using this
theorem opPR_more (l : List UInt8) : opPR (l ++ [48, 120]) = ((0, 0, 0), false) :=
 opPR_no fun _ _ _ h1 h2 => noX h1 120 (by rw [h2]; simp) rfl
theorem opPR_nil : opPR [] = ((0, 0, 0), false) := by decide
set_option maxRecDepth 100000 in
set_option maxHeartbeats 8000000 in
theorem walk_FnOpWords (A : Option Addr) (n c : Nat) (l : List UInt8) (w : World) (hr : Reads w w.heap.size 1 A n (bys l)) (hsg : SignsAt w) : Calls Tryd.prog 5 #[.slice A n c] w fun e w' => e = .returned (.bool true) ∧ Below w.heap.size w w' := by
 by_cases hb : n ≤ 1048576
 rotate_left
 ·go_enter Tryd.func5, Tryd.ntmps5
  go_wp2_with (first | (go_at_call 16; go_in))
  go_ret
  exact ⟨rfl, Below.refl _ _⟩
 go_enter Tryd.func5, Tryd.ntmps5
 go_wp2_with (first | (go_at_call 16; go_in))
 refine (s_DrawOpText hr hb).mono ?_
 rintro e w1 ⟨k, a, b, rfl, hb1⟩
 obtain ⟨W2, hW2⟩ : ∃ W2, W2 = w1.alloc (.cells #[.int .i64 k, .int .i64 a, .int .i64 b] 26) := ⟨_, rfl⟩
 have HX2 := Lib.hid (show Blk W2 w1.heap.size 26 #[.int .i64 k, .int .i64 a, .int .i64 b] by rw [hW2]; exact Blk.new _ _ _)
 have HB2 := Lib.hid (show Below w.heap.size w W2 by rw [hW2]; exact hb1.alloc hb1.size _)
 have HW2 := Lib.hid hW2
 obtain ⟨y0, y1, y2⟩ := bk3 HX2.out
 rw [hW2] at y0 y1 y2
 clear hW2 hb1 hr
 go_wp2_with fail
 rw [← HW2.out]
 refine (s_OpText k a b W2).mono ?_
 rintro e w3 ⟨rfl, hb3⟩
 have HX3 := Lib.hid (HX2.out.below hb3 HX2.out.lt)
 have HB3 := Lib.hid (HB2.out.trans (hb3.mono HB2.out.size))
 clear hb3 y0 y1 y2
 obtain ⟨y0, y1, y2⟩ := bk3 HX3.out
 obtain ⟨tx, htx⟩ : ∃ t, t = opTxR k a b := ⟨_, rfl⟩
 obtain ⟨q, hq⟩ : ∃ q, q = opB k a b 30 := ⟨_, rfl⟩
 rw [← htx, ← hq]
 have Htx := Lib.hid htx
 have Hq := Lib.hid hq
 have hlen : tx.length ≤ 50 := by
  rw [htx]
  unfold opTxR
  split
  ·exact opTx_len
  ·simp
 clear htx hq
 go_wp2_with fail
 refine (i_OpText k a b w3 (hsg.below HB3.out)).mono ?_
 rintro e w4 ⟨rfl, hb4⟩
 rw [← Htx.out, ← Hq.out]
 have HX4 := Lib.hid (HX3.out.below hb4 HX3.out.lt)
 have HB4 := Lib.hid (HB3.out.trans (hb4.mono HB3.out.size))
 clear hb4 y0 y1 y2
 have ht : (⟨tx.toArray⟩ : ByteArray).toList = tx := by rw [tl_eq]
 have hc : (tx == tx) = true := beq_self_eq_true _
 have hqq : (q != q) = false := by cases q <;> rfl
 go_wp2_with fail
 refine (i_ParseOp ⟨tx.toArray⟩ (by show tx.toArray.size ≤ maxLen; unfold maxLen; simp; omega) w4 (hsg.below HB4.out)).mono ?_
 rintro e w5 ⟨rfl, hb5⟩
 rw [show (⟨tx.toArray⟩ : ByteArray).data.toList = tx from rfl]
 have HX5 := Lib.hid (HX4.out.below hb5 HX4.out.lt)
 have HB5 := Lib.hid (HB4.out.trans (hb5.mono HB4.out.size))
 clear hb5 hqq
 cases q with
 | false =>
  have he : tx = [] := by rw [Htx.out]; unfold opTxR; rw [← Hq.out]; rfl
  subst he
  rw [opPR_nil]
  go_wp2_with fail
  go_ret
  exact ⟨rfl, HB5.out.alloc HB5.out.size _⟩
 | true =>
  have he : opTx k a b = tx := by rw [Htx.out]; unfold opTxR; rw [← Hq.out]; rfl
  rw [opPR_yes Hq.out.symm he]
  obtain ⟨t2, ht2⟩ : ∃ t, t = tx ++ [48, 120] := ⟨_, rfl⟩
  have Hm := Lib.hid (show opPR t2 = ((0, 0, 0), false) by rw [ht2]; exact opPR_more tx)
  have hl2 : t2.length ≤ 60 := by rw [ht2, List.length_append]; show tx.length + 2 ≤ 60; omega
  have hsum1 : (tx.length : Int) + 2 ≤ 8388608 := by omega
  have hcat : (⟨tx.toArray⟩ : ByteArray) ++ ⟨#[48, 120]⟩ = ⟨t2.toArray⟩ := by rw [ht2]; exact cat_two tx [48, 120]
  clear ht2
  obtain ⟨W6, hW6⟩ : ∃ W6, W6 = w5.alloc (.cells #[.int .i64 k, .int .i64 a, .int .i64 b] 26) := ⟨_, rfl⟩
  have HW6 := Lib.hid hW6
  have HX6 := Lib.hid (show Blk W6 w1.heap.size 26 #[.int .i64 k, .int .i64 a, .int .i64 b] by rw [hW6]; exact HX5.out.alloc _)
  have HP6 := Lib.hid (show Blk W6 w5.heap.size 26 #[.int .i64 k, .int .i64 a, .int .i64 b] by rw [hW6]; exact Blk.new _ _ _)
  have HB6 := Lib.hid (show Below w.heap.size w W6 by rw [hW6]; exact HB5.out.alloc HB5.out.size _)
  clear he hW6
  go_wp2_with fail
  rw [← HW6.out]
  clear hcat hsum1
  refine (i_ParseOp ⟨t2.toArray⟩ (by show t2.toArray.size ≤ maxLen; unfold maxLen; simp; omega) W6 (hsg.below HB6.out)).mono ?_
  rintro e w7 ⟨rfl, hb7⟩
  rw [show (⟨t2.toArray⟩ : ByteArray).data.toList = t2 from rfl, Hm.out]
  have HX7 := Lib.hid (HX6.out.below hb7 HX6.out.lt)
  have HP7 := Lib.hid (HP6.out.below hb7 HP6.out.lt)
  have HB7 := Lib.hid (HB6.out.trans (hb7.mono HB6.out.size))
  clear hb7
  obtain ⟨W8, hW8⟩ : ∃ W8, W8 = w7.alloc (.cells #[.int .i64 0, .int .i64 0, .int .i64 0] 26) := ⟨_, rfl⟩
  have HW8 := Lib.hid hW8
  have HX8 := Lib.hid (show Blk W8 w1.heap.size 26 #[.int .i64 k, .int .i64 a, .int .i64 b] by rw [hW8]; exact HX7.out.alloc _)
  have HP8 := Lib.hid (show Blk W8 w5.heap.size 26 #[.int .i64 k, .int .i64 a, .int .i64 b] by rw [hW8]; exact HP7.out.alloc _)
  have HQ8 := Lib.hid (show Blk W8 w7.heap.size 26 #[.int .i64 0, .int .i64 0, .int .i64 0] by rw [hW8]; exact Blk.new _ _ _)
  have HB8 := Lib.hid (show Below w.heap.size w W8 by rw [hW8]; exact HB7.out.alloc HB7.out.size _)
  obtain ⟨y0, y1, y2⟩ := bk3 HX8.out
  obtain ⟨z0, z1, z2⟩ := bk3 HP8.out
  obtain ⟨v0, v1, v2⟩ := bk3 HQ8.out
  rw [hW8] at y0 y1 y2 z0 z1 z2 v0 v1 v2
  clear hW8 ht hc hlen hl2
  go_wp2_with fail
  rw [← HW8.out]
  go_ret
  exact ⟨rfl, HB8.out⟩
set_option maxRecDepth 100000 in
theorem lifted_FnOpWords (os : Os) (started : os.Started) (H : Type) (enc : TypeId × Value → H) :
  ReturnsInHanded {} Tryd.checked os 5 .any (fun w args => (Rows.fnOpWordsSpec.pre enc Tryd.prog Tryd.f5 Rows.fnOpWordsRow.domain false w args ∧ laidMetH Tryd.prog signsLaid w) ∧ sizedMet enc Tryd.prog Tryd.f5 (OpenSpec.ofChange Rows.fnOpWordsSpec) false w args) (Rows.fnOpWordsSpec.post enc Tryd.prog Tryd.f5 false true false false) := by
 refine liftV (F := 5) (fn := Tryd.f5) (s := Rows.fnOpWordsSpec) (conds := Rows.fnOpWordsRow.domain) (by kernel_rfl) Tryd.func5 (by kernel_rfl) rfl (by kernel_rfl) (by kernel_rfl) ?_ ?_ os started H enc
  (ChangeSpec.witness_shaped (enc := enc) (C := Tryd.checked) (os := os) (X := fun w _ => laidMetH Tryd.prog signsLaid w) false (World.laidAll Tryd.prog os signsLaid) #[.slice none 0 0] 8 (World.laidAll_os _ _ _) (World.shaped_of_ZipB (by kernel_rfl) (by kernel_rfl)) (by kernel_rfl) (by kernel_rfl) (by kernel_rfl)
   (by rw [MakeChecks.laidMetH_plain _ _ _ (by kernel_rfl)]; exact laidMet_laidAll _ (by kernel_rfl) (by kernel_rfl)))
 ·intro H ds g hl
  rw [Tryd.params5] at hl
  match ds, hl with
  | [d0], _ => exact ⟨rfl, rfl, rfl⟩
 ·intro W base args H enc ds p hval hA hlt hsg
  rw [Tryd.params5] at hA hval
  obtain ⟨v0, vs0, e0, es0, p0, q0, hargs, rfl, rfl, h0, r0⟩ := trodAll_cons hA
  obtain ⟨rfl, rfl, rfl⟩ := trodAll_nil r0
  obtain rfl : args = #[v0] := by cases args; simp_all
  obtain ⟨A0, n0, c0, l, rfl, w0⟩ := op_bytes Tryd.underlying33 Tryd.underlying5 (by kernel_rfl) (hval 0 33 v0 rfl rfl) h0 (fun x hx => hlt x (by simp [hx]))
  exact walk_FnOpWords A0 n0 c0 l W w0 hsg
theorem facts_FnOpWords : joinedFacts Tryd.pinned.checked.prog 5 Tryd.f5 Rows.fnOpWordsSpec Rows.fnOpWordsRow = true :=
 facts_ofV (P := Tryd.prog) (vs := [40]) mayE liftE makeE rfl rfl (by kernel_rfl) (by kernel_rfl) (by kernel_rfl) (by kernel_rfl) (by kernel_rfl) (by kernel_rfl) (by kernel_rfl) (by kernel_rfl) (by kernel_rfl) (by kernel_rfl) (by kernel_rfl) (by kernel_rfl) (by kernel_rfl) (by kernel_rfl) (by kernel_rfl) (by kernel_rfl) (by kernel_rfl) (by kernel_rfl) (by kernel_rfl) (by kernel_rfl) (by kernel_rfl) (by kernel_rfl) (by kernel_rfl) (by kernel_rfl) (by kernel_rfl) (by kernel_rfl) rfl rfl (by kernel_rfl) (by kernel_rfl) (by kernel_rfl)
theorem over_FnOpWords : Rows.fnOpWordsRow.holds Tryd.pinned (OpenSpec.ofChange Rows.fnOpWordsSpec) :=
 OpenClaim.holds_of_wide 5 Tryd.f5 rfl rfl rfl rfl rfl rfl rfl ⟨rfl, rfl, rfl, rfl, rfl⟩ rfl rfl rfl rfl rfl (by kernel_rfl) Tryd.func5 facts_FnOpWords
  (of_decide_eq_true (by kernel_rfl)) (by unfold Func.isWrapper; first | (rw [if_pos (by decide +kernel)]; kernel_rfl) | (rw [if_neg (by decide +kernel)]; exact ⟨rfl, rfl⟩))
  (fun os started H enc _ => lifted_FnOpWords os started H enc)
theorem FnOpWords_holds : Rows.FnOpWordsCardSaid :=
 Claim7.holds_tied_plain_at .later [] [.data] true (true, Rows.fnOpWordsCard.stood.harness.2) false over_FnOpWords (fun _ h => by cases h) (by kernel_rfl) (fun _ h => by cases h) fnOpWords_row_tie rfl ⟨rfl, rfl⟩ (by kernel_rfl) rfl
  (fun f fn hf hfn => by
   obtain rfl : f = 5 := Option.some.inj ((show Tryd.prog.funcNamed "loop.example/g03311/laws.FnOpWords" = some 5 by kernel_rfl).symm.trans hf) |>.symm
   obtain rfl : fn = Tryd.f5 := (Option.some.inj (Tryd.func5.symm.trans hfn)).symm
   exact ⟨by kernel_rfl, fun j t ht => by
    have hall : (Tryd.f5.params.toList.all fun u => !Tryd.prog.wantsStandIn u) = true := by kernel_rfl
    have hm : t ∈ Tryd.f5.params.toList := by rw [Array.mem_toList_iff]; exact Array.mem_of_getElem? ht
    exact (show Tryd.prog.wantsStandIn t = false by simpa using List.all_eq_true.1 hall t hm)⟩)
  (by kernel_rfl)
end Go.Proofs.YtkidchinoilgdaaDoor
