/- Contracts: the values of all signals in a cycle: the program's function. -/
import Derived.Test.YtlkjdhjeecogjaaSigB
import Derived.Outline
namespace Go.Proofs.Ytlkjdhjeecogjaa
open Go.RowKit

theorem sigL_sz (m : TModule) (st : TWordState) (ins : List Int) : szL sInt (sigL m st ins) ≤ 1048576 := by
 rw [szI]
 unfold sigL
 split
 ·rename_i h
  unfold sigOk at h
  simp only [Bool.and_eq_true] at h
  have h1 := okE_na (flat_ok (wsB_iff h.1).1).1
  rw [nI_len]
  unfold sigN
  rw [runV_len]
  simp [inpL]
  omega
 ·simp
theorem sig_no {m : TModule} {st : TWordState} {ins : List Int} (h : sigOk m st ins = false) : sigL m st ins = [] := by
 unfold sigL
 rw [h]
 rfl
set_option maxRecDepth 100000 in
set_option maxHeartbeats 16000000 in
theorem i_SignalValues {w : World} {S S2 S4 : Nat → Prop} {v v2 : Value} {Ai : Option Addr} {ni' ci : Nat} {m : TModule} {st : TWordState} {ins : List Int} (hz : sModule m ≤ 1048576)
  (h : RModule w S v m) (hS : ∀ b, S b → b < w.heap.size) (h2 : RWordState w S2 v2 st) (hS2 : ∀ b, S2 b → b < w.heap.size) (hin : Rep w S4 (.slice Ai ni' ci) (fIntS ins)) (hS4 : ∀ b, S4 b → b < w.heap.size) :
  Calls Try.prog 62 #[v, v2, .slice Ai ni' ci] w fun e w' => ∃ v', e = .returned v' ∧ QIntS w' (New w w') v' (sigL m st ins) ∧ Below w.heap.size w w' := by
 have H2 := Lib.hid h2
 obtain ⟨A0, c0, A1, c1, A2, c2, A3, c3, rfl, hSg, hAs, -, hMe, hm0, hm1, hm2, hm3⟩ := mod_open h
 obtain ⟨ns, hns⟩ : ∃ ns, m.1.length = ns := ⟨_, rfl⟩
 obtain ⟨na, hna⟩ : ∃ na, m.2.1.length = na := ⟨_, rfl⟩
 obtain ⟨ni, hni⟩ : ∃ ni, m.2.2.1.length = ni := ⟨_, rfl⟩
 obtain ⟨nm, hnm⟩ : ∃ nm, m.2.2.2.length = nm := ⟨_, rfl⟩
 rw [hns, hna, hni, hnm] at h ⊢
 rw [hns] at hSg hm0
 rw [hna] at hAs hm1
 rw [hni] at hm2
 rw [hnm] at hMe hm3
 unfold maxLen at hm0 hm1 hm2 hm3
 have Hn := Lib.hid (And.intro hns (And.intro hna (And.intro hni hnm)))
 have H := Lib.hid h
 have HSg := Lib.hid hSg
 have HAs := Lib.hid hAs
 have HMe := Lib.hid hMe
 have HB0 := Lib.hid ((Below.refl w.heap.size w).alloc (Nat.le_refl _) (.cells #[.slice A0 ns c0, .slice A1 na c1, .slice A2 ni c2, .slice A3 nm c3] 41))
 have HX0 := Lib.hid (Blk.new w 41 #[.slice A0 ns c0, .slice A1 na c1, .slice A2 ni c2, .slice A3 nm c3])
 clear hns hna hnm hni h hSg hAs hMe
 obtain ⟨V0, d0, V1, d1, rfl, hV0, hV1, hvm0, hvm1⟩ := wst_open h2
 obtain ⟨nv, hnv⟩ : ∃ nv, st.1.length = nv := ⟨_, rfl⟩
 obtain ⟨nw, hnw⟩ : ∃ nw, st.2.length = nw := ⟨_, rfl⟩
 rw [hnv] at hV0 hvm0 ⊢
 rw [hnw] at hV1 hvm1 ⊢
 unfold maxLen at hvm0 hvm1
 have HNV := Lib.hid (And.intro hnv hnw)
 have HV0 := Lib.hid hV0
 have HV1 := Lib.hid hV1
 clear hnv hnw hV0 hV1 h2
 obtain ⟨W0, hW0⟩ : ∃ W0, W0 = (w.alloc (.cells #[.slice A0 ns c0, .slice A1 na c1, .slice A2 ni c2, .slice A3 nm c3] 41)).alloc (.cells #[.slice V0 nv d0, .slice V1 nw d1] 33) := ⟨_, rfl⟩
 have hz0 : W0.heap.size = w.heap.size + 1 + 1 := by rw [hW0]; simp
 have HBW0 := Lib.hid (show Below w.heap.size w W0 by rw [hW0]; exact HB0.out.alloc (by simp) _)
 have HXM0 := Lib.hid (show Blk W0 w.heap.size 41 #[.slice A0 ns c0, .slice A1 na c1, .slice A2 ni c2, .slice A3 nm c3] by rw [hW0]; exact HX0.out.alloc _)
 have HXS0 := Lib.hid (show Blk W0 (w.heap.size + 1) 33 #[.slice V0 nv d0, .slice V1 nw d1] by rw [hW0]; exact blk_new_at (by simp))
 have HW0 := Lib.hid hW0
 clear hW0
 rw [HNV.out.1, HNV.out.2] at H2
 have hni := hin.len
 rw [List.length_map] at hni
 have Hins := Lib.hid hin
 have Hni := Lib.hid hni
 have hw0 : w.heap.size ≤ W0.heap.size := by omega
 clear hni hin
 go_enter Try.func62, Try.ntmps62
 go_wp2_with fail
 rw [← HW0.out]
 refine (i_WordStateOk hz (RModule.under H.out hS HBW0.out) (fun b hb => by have := hS b hb; omega) (RWordState.under H2.out hS2 HBW0.out) (fun b hb => by have := hS2 b hb; omega)).mono ?_
 rintro e w1 ⟨rfl, hb1⟩
 have HB1 := Lib.hid (HBW0.out.trans (hb1.mono hw0))
 have HXM1 := Lib.hid (HXM0.out.below hb1 HXM0.out.lt)
 have HXS1 := Lib.hid (HXS0.out.below hb1 HXS0.out.lt)
 have z1 := hb1.size
 clear hb1
 cases hws : wsB m st with
 | false =>
  have Hws := Lib.hid hws
  clear hws
  go_wp2_with fail
  go_ret
  refine ⟨_, rfl, ?_, HB1.out⟩
  rw [sig_no (by unfold sigOk; rw [Hws.out, Bool.false_and])]
  exact sep_nil _ _
 | true =>
  have Hws := Lib.hid hws
  clear hws
  obtain ⟨y0, y1, y2, y3⟩ := blkS4 HXM1.out
  obtain ⟨z0, z1'⟩ := blkS2 HXS1.out
  go_wp2_with fail
  refine (i_PortWidths 0 (RModule.under H.out hS HB1.out) (fun b hb => by have := hS b hb; omega)).mono ?_
  rintro e w2 ⟨v3, rfl, hq3, hb2⟩
  obtain ⟨A3', c3', rfl, _, _⟩ := sl_form hq3.rep (List.length_map _)
  obtain ⟨np, hnp⟩ : ∃ np, (widthsM m 0).length = np := ⟨_, rfl⟩
  rw [hnp]
  have Hnp := Lib.hid hnp
  have HB2 := Lib.hid (HB1.out.trans (hb2.mono (by omega)))
  have HXM2 := Lib.hid (HXM1.out.below hb2 HXM1.out.lt)
  have HXS2 := Lib.hid (HXS1.out.below hb2 HXS1.out.lt)
  have z2 := hb2.size
  clear hb2 hq3 hnp y0 y1 y2 y3 z0 z1'
  by_cases hl : ni' = np
  rotate_left
  ·have hl' : ((ni' : Int) != (np : Int)) = true := by simp; omega
   have Hl := Lib.hid hl
   clear hl
   go_wp2_with fail
   go_ret
   refine ⟨_, rfl, ?_, HB2.out⟩
   rw [sig_no (by unfold sigOk; rw [Hws.out, Hni.out, Hnp.out, decide_eq_false Hl.out, Bool.and_false])]
   exact sep_nil _ _
  obtain rfl := hl
  have Hok := Lib.hid (show sigOk m st ins = true by unfold sigOk; rw [Hws.out, Hni.out, Hnp.out]; simp)
  obtain ⟨y0, y1, y2, y3⟩ := blkS4 HXM2.out
  go_wp2_with fail
  refine (i_EvalOrder hz (RModule.under H.out hS HB2.out) (fun b hb => by have := hS b hb; omega)).mono ?_
  rintro e w3 ⟨vo, rfl, hqo, hb3⟩
  obtain ⟨Ao, no, co, rfl⟩ := slv_of hqo.rep
  have HQo := Lib.hid hqo.rep
  have HB3 := Lib.hid (HB2.out.trans (hb3.mono (by omega)))
  have HXM3 := Lib.hid (HXM2.out.below hb3 HXM2.out.lt)
  have HXS3 := Lib.hid (HXS2.out.below hb3 HXS2.out.lt)
  have z3 := hb3.size
  clear hqo hb3 y0 y1 y2 y3
  obtain ⟨y0, y1, y2, y3⟩ := blkS4 HXM3.out
  obtain ⟨z0, z1'⟩ := blkS2 HXS3.out
  go_wp2_with fail
  refine (i_signalValues Hws.out (by rw [Hni.out, Hnp.out]) (RModule.under H.out hS HB3.out) (fun b hb => by have := hS b hb; omega) HQo.out (fun b hb => hb.2) (RWordState.under H2.out hS2 HB3.out) (fun b hb => by have := hS2 b hb; omega) (Hins.out.under hS4 HB3.out) (fun b hb => by have := hS4 b hb; omega)).mono ?_
  rintro e w4 ⟨v5, rfl, hq5, hb4⟩
  have HB4 := Lib.hid (HB3.out.trans (hb4.mono (by omega)))
  have HQ5 := Lib.hid hq5
  clear hq5 hb4 y0 y1 y2 y3 z0 z1'
  go_wp2_with fail
  go_ret
  refine ⟨_, rfl, ?_, HB4.out⟩
  unfold sigL
  rw [Hok.out]
  exact HQ5.out.mono (fun b hb => ⟨by have h1 : w3.heap.size ≤ b := hb.1; omega, hb.2⟩)
end Go.Proofs.Ytlkjdhjeecogjaa
