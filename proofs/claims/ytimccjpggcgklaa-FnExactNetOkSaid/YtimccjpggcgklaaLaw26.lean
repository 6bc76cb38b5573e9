/- Law of valid nets: for every net the program's NetOk is the reference's. Conditions: none. -/
import Derived.Test.YtimccjpggcgklaaFrame7
import Derived.Test.YtimccjpggcgklaaNetP
import Derived.Outline
namespace Go.Proofs.Ytimccjpggcgklaa
open Go.ChangeShapes Go.WideShapes Go.ChangeAt Go.RowKit

theorem wf_roots {ss : List Seq3} {outs : List Int} (h1 : Wf (fSeqS ss)) (h2 : Wf (fints outs)) : ∀ x ∈ rootsL outs ss, x ≤ 9223372036854775807 := by
  intro x hx
  unfold rootsL at hx
  rcases List.mem_append.1 hx with hx | hx
  · exact (h2.map (ra := fun x => [Fd.int x]) hx (g := .int x) (by simp)).num.2
  · obtain ⟨y, hy, hx⟩ := List.mem_flatMap.1 hx
    exact ((h1.map (ra := rSeq) hy (g := fints y.2.2) (by simp [rSeq])).map (ra := fun x => [Fd.int x]) hx (g := .int x) (by simp)).num.2
theorem wf_ands {ands : List (Int × Int)} (h : Wf (frecs eAnd ands)) : ∀ x ∈ ands, x.1 ≤ 9223372036854775807 ∧ x.2 ≤ 9223372036854775807 := fun x hx =>
  ⟨(h.map (ra := frow eAnd) hx (g := .int x.1) (by simp [frow, eAnd])).num.2, (h.map (ra := frow eAnd) hx (g := .int x.2) (by simp [frow, eAnd])).num.2⟩

set_option maxRecDepth 100000 in
set_option maxHeartbeats 4000000 in
theorem walk_FnExactNetOk (inp : Int) (As : Option Addr) (ns cs : Nat) (ss : List Seq3) (Aa : Option Addr) (na ca : Nat) (ands : List (Int × Int)) (Ao : Option Addr) (no co : Nat) (outs : List Int) (w : World) (hh : NetR w (· < w.heap.size) As ns cs ss Aa na ca ands Ao no co outs ∧ Wf (fSeqS ss) ∧ Wf (frecs eAnd ands) ∧ Wf (fints outs)) :
    Calls Try.prog 8 #[.agg #[.int .i64 inp, .slice As ns cs, .slice Aa na ca, .slice Ao no co]] w fun e w' => e = .returned (.bool true) ∧ Below w.heap.size w w' := by
  obtain ⟨h, wf1, wf2, wf3⟩ := hh
  have WR := Lib.hid (wf_roots wf1 wf3)
  have WA := Lib.hid (wf_ands wf2)
  clear wf1 wf2 wf3
  have hS1 : ∀ b, b < w.heap.size → b < (w.alloc (.cells #[.int .i64 inp, .slice As ns cs, .slice Aa na ca, .slice Ao no co] 49)).heap.size := fun b hb => by simp; omega
  have h1 : NetR (w.alloc (.cells #[.int .i64 inp, .slice As ns cs, .slice Aa na ca, .slice Ao no co] 49)) (· < w.heap.size) As ns cs ss Aa na ca ands Ao no co outs := h.keep (fun p hp => World.cell?_alloc_lt _ _ p hp) (fun _ h => h)
  by_cases hB : netTot ss ands outs ≤ 1048576
  · have HB := Lib.hid (show NetB ss ands outs from hB)
    have Hy := Lib.hid (leftOf_yes hB)
    clear hB
    go_enter Try.func8, Try.ntmps8
    go_wp2_with fail
    refine (l_szNet inp 1048576 (by omega) h1 hS1).mono ?_
    rintro e w1 ⟨rfl, hb1⟩
    rw [Hy.out]
    have HX1 := Lib.hid ((Blk.new w 49 #[.int .i64 inp, .slice As ns cs, .slice Aa na ca, .slice Ao no co]).below hb1 (by simp))
    have Hb1 := Lib.hid (((Below.refl w.heap.size w).alloc (Nat.le_refl _) _).trans (hb1.mono (by simp)))
    have HN1 := Lib.hid (h1.under hS1 hb1)
    have z1 := hb1.size
    simp at z1
    clear hb1 h1
    obtain ⟨x0, x1, x2, x3⟩ := bk4 HX1.out
    go_wp2_with fail
    refine (l_toNet inp HB.out HN1.out (fun b hb => by omega)).mono ?_
    rintro e w2 ⟨As2, cs2, Aa2, ca2, Ao2, co2, rfl, hr2, hb2⟩
    have HR2 := Lib.hid hr2
    have HX2 := Lib.hid (HX1.out.below hb2 HX1.out.lt)
    have Hb2 := Lib.hid (Hb1.out.trans (hb2.mono Hb1.out.size))
    have HN2 := Lib.hid (HN1.out.under (B := w1.heap.size) (fun b hb => by omega) hb2)
    have z2 := hb2.size
    clear hb2 hr2 x0 x1 x2 x3 HX1 Hb1 HN1
    go_wp2_with fail
    refine (s_NetOk inp HB.out HR2.out (fun b hb => hb.2) WR.out WA.out).mono ?_
    rintro e w3 ⟨rfl, hb3⟩
    have HX3 := Lib.hid (HX2.out.below hb3 HX2.out.lt)
    have Hb3 := Lib.hid (Hb2.out.trans (hb3.mono Hb2.out.size))
    have HN3 := Lib.hid (HN2.out.under (B := w2.heap.size) (fun b hb => by omega) hb3)
    have z3 := hb3.size
    clear hb3 HX2 Hb2 HN2
    obtain ⟨x0, x1, x2, x3⟩ := bk4 HX3.out
    go_wp2_with fail
    refine (l_toNet inp HB.out HN3.out (fun b hb => by omega)).mono ?_
    rintro e w4 ⟨As4, cs4, Aa4, ca4, Ao4, co4, rfl, hr4, hb4⟩
    have HX4 := Lib.hid ((HX3.out.below hb4 HX3.out.lt).alloc (.cells #[.int .i64 inp, .slice As4 ns cs4, .slice Aa4 na ca4, .slice Ao4 no co4] 41))
    have HY4 := Lib.hid (Blk.new w4 41 #[.int .i64 inp, .slice As4 ns cs4, .slice Aa4 na ca4, .slice Ao4 no co4])
    have Hb4 := Lib.hid ((Hb3.out.trans (hb4.mono Hb3.out.size)).alloc (Nat.le_trans Hb3.out.size hb4.size) (.cells #[.int .i64 inp, .slice As4 ns cs4, .slice Aa4 na ca4, .slice Ao4 no co4] 41))
    have HN4 := Lib.hid ((HN3.out.under (B := w3.heap.size) (fun b hb => by omega) hb4).keep (w' := w4.alloc (.cells #[.int .i64 inp, .slice As4 ns cs4, .slice Aa4 na ca4, .slice Ao4 no co4] 41)) (fun p hp => World.cell?_alloc_lt _ _ p (by have := hb4.size; omega)) (fun _ h => h))
    have HR4 := Lib.hid (hr4.keep (w' := w4.alloc (.cells #[.int .i64 inp, .slice As4 ns cs4, .slice Aa4 na ca4, .slice Ao4 no co4] 41)) (S' := (· < w4.heap.size)) (fun p hp => World.cell?_alloc_lt _ _ p hp.2) (fun _ h => h.2))
    have z4 := hb4.size
    clear hb4 hr4 x0 x1 x2 x3 HX3 Hb3 HN3
    obtain ⟨y0, y1, y2, y3⟩ := bk4 HY4.out
    go_wp2_with fail
    refine (i_NetOk inp HB.out HR4.out (fun b hb => by simp; omega)).mono ?_
    rintro e w5 ⟨rfl, hb5⟩
    have HX5 := Lib.hid (HX4.out.below hb5 HX4.out.lt)
    have HY5 := Lib.hid (HY4.out.below hb5 HY4.out.lt)
    have Hb5 := Lib.hid (Hb4.out.trans (hb5.mono Hb4.out.size))
    have HN5 := Lib.hid (HN4.out.under (B := (w4.alloc (.cells #[.int .i64 inp, .slice As4 ns cs4, .slice Aa4 na ca4, .slice Ao4 no co4] 41)).heap.size) (fun b hb => by simp; omega) hb5)
    have HR5 := Lib.hid (HR4.out.under (B := (w4.alloc (.cells #[.int .i64 inp, .slice As4 ns cs4, .slice Aa4 na ca4, .slice Ao4 no co4] 41)).heap.size) (fun b hb => by simp; omega) hb5)
    have z5 := hb5.size
    simp at z5
    clear hb5 y0 y1 y2 y3 HX4 HY4 Hb4 HN4 HR4
    go_wp2_with fail
    have lx := HX5.out.lt
    have ly := HY5.out.lt
    refine wp_region_lexC (by kernel_rfl) (by kernel_rfl) (fun x => Below w5.heap.size w5 x) ((Below.refl _ _).drew) (fun lexNE => ?_)
    have cX := bw4 HX5.out lx
    have cY := bw4 HY5.out ly
    obtain ⟨cX0, cX1, cX2, cX3⟩ := cX
    obtain ⟨cY0, cY1, cY2, cY3⟩ := cY
    (repeat (first | (refine lex_read (by first | exact wanted_n rfl | exact wanted_g rfl rfl rfl rfl) (by exact rfl) (fun K hK => ?_); go_big_quiet_op; refine hK _ ?_; clear hK K) | (refine lex_skip' (by exact wanted_g rfl rfl rfl rfl) (fun K hK => ?_); go_simp; refine hK _ ?_; clear hK K)))
    (refine lex_eff (by first | exact wanted_n rfl | exact wanted_g rfl rfl rfl rfl) (by exact rfl) (fun K hK => ?_); go_big_op)
    refine (l_toNet inp HB.out (HN5.out.keep (w' := w5.drew) (fun _ _ => rfl) (fun _ h => h)) (fun b hb => by simp; omega)).mono ?_
    rintro e w6 ⟨As6, cs6, Aa6, ca6, Ao6, co6, rfl, hr6, hb6⟩
    have H6 := Lib.hid ((Below.refl w5.heap.size w5).drew.trans hb6)
    have HR6 := Lib.hid (HR5.out.under (B := w5.heap.size) (fun b hb => by omega) H6.out)
    have HT6 := Lib.hid hr6
    have z6 := H6.out.size
    refine hK _ _ (Cls.mk' H6.out) ?_
    clear hK K hb6 hr6
    (repeat (first | (refine lex_read (by first | exact wanted_n rfl | exact wanted_g rfl rfl rfl rfl) (by exact rfl) (fun K hK => ?_); go_big_quiet_op; refine hK _ ?_; clear hK K) | (refine lex_skip' (by exact wanted_g rfl rfl rfl rfl) (fun K hK => ?_); go_simp; refine hK _ ?_; clear hK K)))
    (refine lex_eff (by first | exact wanted_n rfl | exact wanted_g rfl rfl rfl rfl) (by exact rfl) (fun K hK => ?_); go_big_op)
    refine (l_eqNet inp HB.out HR6.out HT6.out (fun b hb => by omega) (fun b hb => hb.2)).mono ?_
    rintro e w7 ⟨rfl, hb7⟩
    have H7 := Lib.hid (H6.out.trans (hb7.mono H6.out.size))
    refine hK _ _ (Cls.mk' H7.out) ?_
    clear hK K hb7
    (repeat (first | (refine lex_read (by first | exact wanted_n rfl | exact wanted_g rfl rfl rfl rfl) (by exact rfl) (fun K hK => ?_); go_big_quiet_op; refine hK _ ?_; clear hK K) | (refine lex_skip' (by exact wanted_g rfl rfl rfl rfl) (fun K hK => ?_); go_simp; refine hK _ ?_; clear hK K)))
    (refine lex_nil ?_)
    clear lexNE cX0 cX1 cX2 cX3 cY0 cY1 cY2 cY3
    go_wp2_with fail
    go_ret
    exact ⟨rfl, Hb5.out.trans (H7.out.mono Hb5.out.size)⟩
  · have Hy := Lib.hid (leftOf_no hB)
    clear hB
    go_enter Try.func8, Try.ntmps8
    go_wp2_with fail
    refine (l_szNet inp 1048576 (by omega) h1 hS1).mono ?_
    rintro e w1 ⟨rfl, hb1⟩
    rw [Hy.out]
    have Hb1 := Lib.hid (((Below.refl w.heap.size w).alloc (Nat.le_refl _) _).trans (hb1.mono (by simp)))
    go_wp2_with fail
    go_ret
    exact ⟨rfl, Hb1.out⟩
set_option maxRecDepth 100000 in
theorem lifted_FnExactNetOk (os : Os) (started : os.Started) (H : Type) (enc : TypeId × Value → H) :
    ReturnsInHanded {} Try.checked os 8 .any (Rows.fnExactNetOkSpec.pre6 enc Try.prog Try.f8 Rows.fnExactNetOkRow.domain false) (Rows.fnExactNetOkSpec.post enc Try.prog Try.f8 false true false false) := by
  refine lift (F := 8) (fn := Try.f8) (s := Rows.fnExactNetOkSpec) (conds := Rows.fnExactNetOkRow.domain) (by kernel_rfl) Try.func8 (by kernel_rfl) rfl (by kernel_rfl) ?_ ?_ os started H enc
    (ChangeSpec.witness6 (enc := enc) (C := Try.checked) false ⟨#[], #[.agg #[.int .i64 0, .slice none 0 0, .slice none 0 0, .slice none 0 0]], []⟩ 8 (by kernel_rfl) (by kernel_rfl) (by kernel_rfl) (by kernel_rfl))
  · intro H ds hl
    rw [Try.params8] at hl
    match ds, hl with
    | [d0], _ => exact ⟨rfl, rfl, rfl⟩
  · intro W base args H enc ds p hval hA hlt
    rw [Try.params8] at hA hval
    obtain ⟨v0, vs0, e0, es0, p0, q0, hargs, rfl, rfl, h0, r0⟩ := trodAll_cons hA
    obtain ⟨rfl, rfl, rfl⟩ := trodAll_nil r0
    obtain rfl : args = #[v0] := by cases args; simp_all
    obtain ⟨inp0, As0, ns0, cs0, ss0, Aa0, na0, ca0, ands0, Ao0, no0, co0, outs0, rfl, w0⟩ := op_netW Try.underlying49 (by kernel_rfl) (by kernel_rfl) (by kernel_rfl) Try.underlying46 Try.underlying47 Try.underlying39 Try.underlying3 (by kernel_rfl) Try.underlying151 (by kernel_rfl) (by kernel_rfl) (by kernel_rfl) (by kernel_rfl) Try.underlying39 Try.underlying154 (by kernel_rfl) (by kernel_rfl) (by kernel_rfl) (by kernel_rfl) (hval 0 49 v0 rfl rfl) h0 (fun x hx => hlt x (by simp [hx]))
    exact walk_FnExactNetOk inp0 As0 ns0 cs0 ss0 Aa0 na0 ca0 ands0 Ao0 no0 co0 outs0 W w0
theorem facts_FnExactNetOk : joinedFacts Try.pinned.checked.prog 8 Try.f8 Rows.fnExactNetOkSpec Rows.fnExactNetOkRow = true :=
  facts_of (P := Try.prog) mayE liftE makeE rfl rfl (by kernel_rfl) (by kernel_rfl) (by kernel_rfl) (by kernel_rfl) (by kernel_rfl) (by kernel_rfl) (by kernel_rfl) (by kernel_rfl) (by kernel_rfl) (by kernel_rfl) (by kernel_rfl) (by kernel_rfl) (by kernel_rfl) rfl rfl (by kernel_rfl) (by kernel_rfl) (by kernel_rfl) (by kernel_rfl) (by kernel_rfl) (by kernel_rfl) (by kernel_rfl) (by kernel_rfl) (by kernel_rfl) (by kernel_rfl) (by kernel_rfl) rfl rfl (by kernel_rfl) (by kernel_rfl) (by kernel_rfl)
theorem over_FnExactNetOk : Rows.fnExactNetOkRow.holds Try.pinned (OpenSpec.ofChange Rows.fnExactNetOkSpec) :=
  OpenClaim.holds_of_wide 8 Try.f8 rfl rfl rfl rfl rfl rfl rfl ⟨rfl, rfl, rfl, rfl, rfl⟩ rfl rfl rfl rfl rfl (by kernel_rfl) Try.func8 facts_FnExactNetOk
    (of_decide_eq_true (by kernel_rfl)) (by unfold Func.isWrapper; first | (rw [if_pos (by decide +kernel)]; kernel_rfl) | (rw [if_neg (by decide +kernel)]; exact ⟨rfl, rfl⟩))
    (fun os started H enc _ => lifted_FnExactNetOk os started H enc)
theorem FnExactNetOk_holds : Rows.FnExactNetOkSaid := over_FnExactNetOk
end Go.Proofs.Ytimccjpggcgklaa
