/- Law of the value of an expression: for every expression, values and width the program's ExprValue returns the reference's value. Conditions: none. -/
import Derived.Test.YtjkdgedgfkgjdaaFrame9
import Derived.Test.YtjkdgedgfkgjdaaExv
import Derived.Test.YtjkdgedgfkgjdaaGa
import Derived.Outline
namespace Go.Proofs.Ytjkdgedgfkgjdaa
open Go.ChangeShapes Go.WideShapes Go.ChangeAt Go.RowKit

theorem sz_len {w : World} {S : Nat → Prop} {A : Option Addr} {n c : Nat} {α : Type} {ra : α → List Fd} {s : α → Nat} {l : List α} (h : Rep w S (.slice A n c) (.sl (l.map ra))) (hz : szL s l ≤ 1048576) : n ≤ 1048576 := by
  have h1 := h.len
  rw [List.length_map] at h1
  unfold szL at hz
  omega
set_option maxRecDepth 100000 in
set_option maxHeartbeats 8000000 in
theorem walk_FnExactExprValue (v0 : Value) (os : List TOp) (v1 : Value) (vals : List TInt) (wd : Int) (w : World) (h0 : Rep (w) (fun b => b < w.heap.size) (v0) (fOpS os) ∧ Wf (fOpS os)) (h1 : Rep (w) (fun b => b < w.heap.size) (v1) (fIntS vals) ∧ Wf (fIntS vals)) :
    Calls Try.prog 5 #[v0, v1, .int .i64 wd] w fun e w' => e = .returned (.bool true) ∧ Below w.heap.size w w' := by
  obtain ⟨h0, wf0⟩ := h0
  have WF0 := Lib.hid wf0
  clear wf0
  obtain ⟨h1, wf1⟩ := h1
  have WF1 := Lib.hid wf1
  clear wf1
  obtain ⟨Aa0, na0, ca0, rfl⟩ := slv_of h0
  obtain ⟨Aa1, na1, ca1, rfl⟩ := slv_of h1
  have HB0 := Lib.hid (Below.refl w.heap.size w)
  have HR0 := Lib.hid h0
  clear h0
  have HR1 := Lib.hid h1
  clear h1
  by_cases hlen1 : na1 ≤ 1048576
  rotate_left
  · go_enter Try.func5, Try.ntmps5
    go_wp2_with fail
    go_ret
    exact ⟨rfl, (by repeat (first | with_reducible exact Below.refl _ _ | with_reducible assumption | with_reducible refine below_drewN ?_ _ | with_reducible refine Below.drew ?_ | ((with_reducible refine Below.alloc ?_ ?_ _); rotate_left; (((try simp) <;> (try omega)) <;> done)) | ((with_reducible refine Below.setCell ?_ ?_ _); rotate_left; (((try simp) <;> (try omega)) <;> done)) | ((with_reducible refine Below.trans ?_ (Below.mono (by with_reducible assumption) ?_)); rotate_left; (((try simp) <;> (try omega)) <;> done))))⟩
  have HZ1 := Lib.hid (show szL sInt vals ≤ 1048576 by have h1 := HR1.out.len; rw [List.length_map] at h1; unfold szL; rw [nuL_zero sInt (fun _ => rfl)]; omega)
  go_enter Try.func5, Try.ntmps5
  go_wp2_with fail
  refine (d_szOpS (1048576) (by omega) HR0.out (fun b hb => by have : _ < w.heap.size := hb; (try simp) <;> omega)).mono ?_
  rintro e w1 ⟨rfl, hb1⟩
  obtain ⟨cz0, hcz0⟩ : ∃ zz, zz = szL sOp os := ⟨_, rfl⟩
  rw [← hcz0]
  have zw1 := hb1.size
  try simp at zw1
  have H1 := Lib.hid (Rep.keep HR0.out (w' := w1) (fun p hb => hb1.cell (by have : _ < w.heap.size := hb; (try simp) <;> omega)))
  clear HR0
  have H2 := Lib.hid (Rep.keep HR1.out (w' := w1) (fun p hb => hb1.cell (by have : _ < w.heap.size := hb; (try simp) <;> omega)))
  clear HR1
  have HB3 := Lib.hid (HB0.out.trans (hb1.mono (by have := HB0.out.size; (try simp) <;> omega)))
  clear HB0
  clear hb1
  by_cases bcz0 : cz0 ≤ 1048576
  rotate_left
  · rw [leftD_no bcz0]
    clear hcz0
    go_wp2_with fail
    go_ret
    exact ⟨rfl, HB3.out⟩
  obtain ⟨lf0, hlf0⟩ : ∃ zz, zz = 1048576 - cz0 := ⟨_, rfl⟩
  rw [leftD_yes bcz0, ← hlf0]
  have HZ0 := Lib.hid (show szL sOp os ≤ 1048576 by rw [← hcz0]; omega)
  have hllf0 : lf0 ≤ 1048576 := by omega
  clear hcz0 bcz0 hlf0
  go_wp2_with fail
  refine (d_toOpS HZ0.out H1.out (fun b hb => by have : _ < w.heap.size := hb; (try simp) <;> omega)).mono ?_
  rintro e w2 ⟨vw2, rfl, hqw2, hb2⟩
  obtain ⟨Aw2, nw2, cw2, rfl⟩ := slv_of hqw2.rep
  have HQw2 := Lib.hid (Sep.mono hqw2 (S' := Iv (w1.heap.size) (w2.heap.size)) (fun b hb => by have := hb; simp [New] at this; exact ⟨by omega, this.2⟩))
  clear hqw2
  have zw2 := hb2.size
  try simp at zw2
  have H4 := Lib.hid (Rep.keep H1.out (w' := w2) (fun p hb => hb2.cell (by have : _ < w.heap.size := hb; (try simp) <;> omega)))
  clear H1
  have H5 := Lib.hid (Rep.keep H2.out (w' := w2) (fun p hb => hb2.cell (by have : _ < w.heap.size := hb; (try simp) <;> omega)))
  clear H2
  have HB6 := Lib.hid (HB3.out.trans (hb2.mono (by have := HB3.out.size; (try simp) <;> omega)))
  clear HB3
  clear hb2
  go_wp2_with fail
  refine (d_toIntS HZ1.out H5.out (fun b hb => by have : _ < w.heap.size := hb; (try simp) <;> omega)).mono ?_
  rintro e w3 ⟨vw3, rfl, hqw3, hb3⟩
  obtain ⟨Aw3, nw3, cw3, rfl⟩ := slv_of hqw3.rep
  have HQw3 := Lib.hid (Sep.mono hqw3 (S' := Iv (w2.heap.size) (w3.heap.size)) (fun b hb => by have := hb; simp [New] at this; exact ⟨by omega, this.2⟩))
  clear hqw3
  have zw3 := hb3.size
  try simp at zw3
  have H7 := Lib.hid (Rep.keep H4.out (w' := w3) (fun p hb => hb3.cell (by have : _ < w.heap.size := hb; (try simp) <;> omega)))
  clear H4
  have H8 := Lib.hid (Rep.keep H5.out (w' := w3) (fun p hb => hb3.cell (by have : _ < w.heap.size := hb; (try simp) <;> omega)))
  clear H5
  have H9 := Lib.hid (Sep.keep HQw2.out (w' := w3) (fun b hb => hb3.block b (by have := hb; simp only [Iv] at this; (try simp) <;> omega)))
  clear HQw2
  have HB10 := Lib.hid (HB6.out.trans (hb3.mono (by have := HB6.out.size; (try simp) <;> omega)))
  clear HB6
  clear hb3
  go_wp2_with fail
  refine (s_ExprValue (sz_len H9.out.rep HZ0.out) (sz_len HQw3.out.rep HZ1.out) H9.out.rep (fun b hb => by have := hb; simp only [Iv] at this; (try simp) <;> omega) HQw3.out.rep (fun b hb => by have := hb; simp only [Iv] at this; (try simp) <;> omega) (W := wd)).mono ?_
  rintro e w4 ⟨rfl, hb4⟩
  obtain ⟨q0, hq0⟩ : ∃ zz, zz = exV os vals wd := ⟨_, rfl⟩
  rw [← hq0]
  have HS0 := Lib.hid hq0
  clear hq0
  have zw4 := hb4.size
  try simp at zw4
  clear H9 HQw3
  have H11 := Lib.hid (Rep.keep H7.out (w' := w4) (fun p hb => hb4.cell (by have : _ < w.heap.size := hb; (try simp) <;> omega)))
  clear H7
  have H12 := Lib.hid (Rep.keep H8.out (w' := w4) (fun p hb => hb4.cell (by have : _ < w.heap.size := hb; (try simp) <;> omega)))
  clear H8
  have HB13 := Lib.hid (HB10.out.trans (hb4.mono (by have := HB10.out.size; (try simp) <;> omega)))
  clear HB10
  clear hb4
  go_wp2_with fail
  refine (d_toOpS HZ0.out H11.out (fun b hb => by have : _ < w.heap.size := hb; (try simp) <;> omega)).mono ?_
  rintro e w5 ⟨vw5, rfl, hqw5, hb5⟩
  obtain ⟨Aw5, nw5, cw5, rfl⟩ := slv_of hqw5.rep
  have HQw5 := Lib.hid (Sep.mono hqw5 (S' := Iv (w4.heap.size) (w5.heap.size)) (fun b hb => by have := hb; simp [New] at this; exact ⟨by omega, this.2⟩))
  clear hqw5
  have zw5 := hb5.size
  try simp at zw5
  have H14 := Lib.hid (Rep.keep H11.out (w' := w5) (fun p hb => hb5.cell (by have : _ < w.heap.size := hb; (try simp) <;> omega)))
  clear H11
  have H15 := Lib.hid (Rep.keep H12.out (w' := w5) (fun p hb => hb5.cell (by have : _ < w.heap.size := hb; (try simp) <;> omega)))
  clear H12
  have HB16 := Lib.hid (HB13.out.trans (hb5.mono (by have := HB13.out.size; (try simp) <;> omega)))
  clear HB13
  clear hb5
  go_wp2_with fail
  refine (d_toIntS HZ1.out H15.out (fun b hb => by have : _ < w.heap.size := hb; (try simp) <;> omega)).mono ?_
  rintro e w6 ⟨vw6, rfl, hqw6, hb6⟩
  obtain ⟨Aw6, nw6, cw6, rfl⟩ := slv_of hqw6.rep
  have HQw6 := Lib.hid (Sep.mono hqw6 (S' := Iv (w5.heap.size) (w6.heap.size)) (fun b hb => by have := hb; simp [New] at this; exact ⟨by omega, this.2⟩))
  clear hqw6
  have zw6 := hb6.size
  try simp at zw6
  have H17 := Lib.hid (Rep.keep H14.out (w' := w6) (fun p hb => hb6.cell (by have : _ < w.heap.size := hb; (try simp) <;> omega)))
  clear H14
  have H18 := Lib.hid (Rep.keep H15.out (w' := w6) (fun p hb => hb6.cell (by have : _ < w.heap.size := hb; (try simp) <;> omega)))
  clear H15
  have H19 := Lib.hid (Sep.keep HQw5.out (w' := w6) (fun b hb => hb6.block b (by have := hb; simp only [Iv] at this; (try simp) <;> omega)))
  clear HQw5
  have HB20 := Lib.hid (HB16.out.trans (hb6.mono (by have := HB16.out.size; (try simp) <;> omega)))
  clear HB16
  clear hb6
  go_wp2_with fail
  refine (i_ExprValue (sz_len H19.out.rep HZ0.out) (sz_len HQw6.out.rep HZ1.out) H19.out.rep (fun b hb => by have := hb; simp only [Iv] at this; (try simp) <;> omega) HQw6.out.rep (fun b hb => by have := hb; simp only [Iv] at this; (try simp) <;> omega) (W := wd)).mono ?_
  rintro e w7 ⟨rfl, hb7⟩
  rw [← HS0.out]
  have zw7 := hb7.size
  try simp at zw7
  have H21 := Lib.hid (Rep.keep H17.out (w' := w7) (fun p hb => hb7.cell (by have : _ < w.heap.size := hb; (try simp) <;> omega)))
  clear H17
  have H22 := Lib.hid (Rep.keep H18.out (w' := w7) (fun p hb => hb7.cell (by have : _ < w.heap.size := hb; (try simp) <;> omega)))
  clear H18
  have H23 := Lib.hid (Sep.keep H19.out (w' := w7) (fun b hb => hb7.block b (by have := hb; simp only [Iv] at this; (try simp) <;> omega)))
  clear H19
  have H24 := Lib.hid (Sep.keep HQw6.out (w' := w7) (fun b hb => hb7.block b (by have := hb; simp only [Iv] at this; (try simp) <;> omega)))
  clear HQw6
  have HB25 := Lib.hid (HB20.out.trans (hb7.mono (by have := HB20.out.size; (try simp) <;> omega)))
  clear HB20
  clear hb7
  go_wp2_with fail
  refine (d_toOpS HZ0.out H21.out (fun b hb => by have : _ < w.heap.size := hb; (try simp) <;> omega)).mono ?_
  rintro e w8 ⟨vw8, rfl, hqw8, hb8⟩
  obtain ⟨Aw8, nw8, cw8, rfl⟩ := slv_of hqw8.rep
  have HQw8 := Lib.hid (Sep.mono hqw8 (S' := Iv (w7.heap.size) (w8.heap.size)) (fun b hb => by have := hb; simp [New] at this; exact ⟨by omega, this.2⟩))
  clear hqw8
  have zw8 := hb8.size
  try simp at zw8
  clear H21
  have H26 := Lib.hid (Rep.keep H22.out (w' := w8) (fun p hb => hb8.cell (by have : _ < w.heap.size := hb; (try simp) <;> omega)))
  clear H22
  have H27 := Lib.hid (Sep.keep H23.out (w' := w8) (fun b hb => hb8.block b (by have := hb; simp only [Iv] at this; (try simp) <;> omega)))
  clear H23
  have H28 := Lib.hid (Sep.keep H24.out (w' := w8) (fun b hb => hb8.block b (by have := hb; simp only [Iv] at this; (try simp) <;> omega)))
  clear H24
  have HB29 := Lib.hid (HB25.out.trans (hb8.mono (by have := HB25.out.size; (try simp) <;> omega)))
  clear HB25
  clear hb8
  go_wp2_with fail
  refine (d_eqOpS HZ0.out H27.out.rep HQw8.out.rep (fun b hb => by have := hb; simp only [Iv] at this; (try simp) <;> omega) (fun b hb => by have := hb; simp only [Iv] at this; (try simp) <;> omega)).mono ?_
  rintro e w9 ⟨rfl, hb9⟩
  have zw9 := hb9.size
  try simp at zw9
  clear H27 HQw8
  have H30 := Lib.hid (Rep.keep H26.out (w' := w9) (fun p hb => hb9.cell (by have : _ < w.heap.size := hb; (try simp) <;> omega)))
  clear H26
  have H31 := Lib.hid (Sep.keep H28.out (w' := w9) (fun b hb => hb9.block b (by have := hb; simp only [Iv] at this; (try simp) <;> omega)))
  clear H28
  have HB32 := Lib.hid (HB29.out.trans (hb9.mono (by have := HB29.out.size; (try simp) <;> omega)))
  clear HB29
  clear hb9
  go_wp2_with fail
  refine (d_toIntS HZ1.out H30.out (fun b hb => by have : _ < w.heap.size := hb; (try simp) <;> omega)).mono ?_
  rintro e w10 ⟨vw10, rfl, hqw10, hb10⟩
  obtain ⟨Aw10, nw10, cw10, rfl⟩ := slv_of hqw10.rep
  have HQw10 := Lib.hid (Sep.mono hqw10 (S' := Iv (w9.heap.size) (w10.heap.size)) (fun b hb => by have := hb; simp [New] at this; exact ⟨by omega, this.2⟩))
  clear hqw10
  have zw10 := hb10.size
  try simp at zw10
  clear H30
  have H33 := Lib.hid (Sep.keep H31.out (w' := w10) (fun b hb => hb10.block b (by have := hb; simp only [Iv] at this; (try simp) <;> omega)))
  clear H31
  have HB34 := Lib.hid (HB32.out.trans (hb10.mono (by have := HB32.out.size; (try simp) <;> omega)))
  clear HB32
  clear hb10
  go_wp2_with fail
  refine (d_eqIntS HZ1.out H33.out.rep HQw10.out.rep (fun b hb => by have := hb; simp only [Iv] at this; (try simp) <;> omega) (fun b hb => by have := hb; simp only [Iv] at this; (try simp) <;> omega)).mono ?_
  rintro e w11 ⟨rfl, hb11⟩
  have zw11 := hb11.size
  try simp at zw11
  clear H33 HQw10
  have HB35 := Lib.hid (HB34.out.trans (hb11.mono (by have := HB34.out.size; (try simp) <;> omega)))
  clear HB34
  clear hb11
  go_wp2_with fail
  go_ret
  exact ⟨rfl, HB35.out⟩
set_option maxRecDepth 100000 in
theorem lifted_FnExactExprValue (os : Os) (started : os.Started) (H : Type) (enc : TypeId × Value → H) :
    ReturnsInHanded {} Try.checked os 5 .any (Rows.fnExactExprValueSpec.pre6 enc Try.prog Try.f5 Rows.fnExactExprValueRow.domain false) (Rows.fnExactExprValueSpec.post enc Try.prog Try.f5 false true false false) := by
  refine lift (F := 5) (fn := Try.f5) (s := Rows.fnExactExprValueSpec) (conds := Rows.fnExactExprValueRow.domain) (by kernel_rfl) Try.func5 (by kernel_rfl) rfl (by kernel_rfl) ?_ ?_ os started H enc
    (ChangeSpec.witness6 (enc := enc) (C := Try.checked) false ⟨#[], #[.slice none 0 0, .slice none 0 0, .int .i64 0], []⟩ 8 (by kernel_rfl) (by kernel_rfl) (by kernel_rfl) (by kernel_rfl))
  · intro H ds hl
    rw [Try.params5] at hl
    match ds, hl with
    | [d0, d1, d2], _ => exact ⟨rfl, rfl, rfl⟩
  · intro W base args H enc ds p hval hA hlt
    rw [Try.params5] at hA hval
    obtain ⟨v0, vs0, e0, es0, p0, q0, hargs, rfl, rfl, h0, r0⟩ := trodAll_cons hA
    obtain ⟨v1, vs1, e1, es1, p1, q1, rfl, rfl, rfl, h1, r1⟩ := trodAll_cons r0
    obtain ⟨v2, vs2, e2, es2, p2, q2, rfl, rfl, rfl, h2, r2⟩ := trodAll_cons r1
    obtain ⟨rfl, rfl, rfl⟩ := trodAll_nil r2
    obtain rfl : args = #[v0, v1, v2] := by cases args; simp_all
    obtain ⟨x0, w0⟩ := op_OpS (hval 0 58 v0 rfl rfl) h0 (fun x hx => hlt x (by simp [hx]))
    obtain ⟨x1, w1⟩ := op_IntS (hval 1 28 v1 rfl rfl) h1 (fun x hx => hlt x (by simp [hx]))
    obtain ⟨wd, rfl, w2⟩ := op_int Try.underlying3 (hval 2 3 v2 rfl rfl) h2
    exact walk_FnExactExprValue v0 x0 v1 x1 wd W w0 w1
theorem facts_FnExactExprValue : joinedFacts Try.pinned.checked.prog 5 Try.f5 Rows.fnExactExprValueSpec Rows.fnExactExprValueRow = true :=
  facts_of (P := Try.prog) mayE liftE makeE rfl rfl (by kernel_rfl) (by kernel_rfl) (by kernel_rfl) (by kernel_rfl) (by kernel_rfl) (by kernel_rfl) (by kernel_rfl) (by kernel_rfl) (by kernel_rfl) (by kernel_rfl) (by kernel_rfl) (by kernel_rfl) (by kernel_rfl) rfl rfl (by kernel_rfl) (by kernel_rfl) (by kernel_rfl) (by kernel_rfl) (by kernel_rfl) (by kernel_rfl) (by kernel_rfl) (by kernel_rfl) (by kernel_rfl) (by kernel_rfl) (by kernel_rfl) rfl rfl (by kernel_rfl) (by kernel_rfl) (by kernel_rfl)
theorem over_FnExactExprValue : Rows.fnExactExprValueRow.holds Try.pinned (OpenSpec.ofChange Rows.fnExactExprValueSpec) :=
  OpenClaim.holds_of_wide 5 Try.f5 rfl rfl rfl rfl rfl rfl rfl ⟨rfl, rfl, rfl, rfl, rfl⟩ rfl rfl rfl rfl rfl (by kernel_rfl) Try.func5 facts_FnExactExprValue
    (of_decide_eq_true (by kernel_rfl)) (by unfold Func.isWrapper; first | (rw [if_pos (by decide +kernel)]; kernel_rfl) | (rw [if_neg (by decide +kernel)]; exact ⟨rfl, rfl⟩))
    (fun os started H enc _ => lifted_FnExactExprValue os started H enc)
theorem FnExactExprValue_holds : Rows.FnExactExprValueSaid := over_FnExactExprValue
end Go.Proofs.Ytjkdgedgfkgjdaa
