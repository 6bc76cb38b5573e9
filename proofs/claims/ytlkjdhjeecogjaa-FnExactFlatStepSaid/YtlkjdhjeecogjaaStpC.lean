/- Contracts: a step of a flat module: the program's function. -/
import Derived.Test.YtlkjdhjeecogjaaStpA
import Derived.Test.YtlkjdhjeecogjaaStpB
import Derived.Test.YtlkjdhjeecogjaaSigC
import Derived.Outline
namespace Go.Proofs.Ytlkjdhjeecogjaa
open Go.RowKit

set_option maxRecDepth 100000 in
set_option maxHeartbeats 16000000 in
theorem i_FlatStep {w : World} {S S2 S4 : Nat → Prop} {v v2 : Value} {Ai : Option Addr} {ni' ci : Nat} {m : TModule} {st : TWordState} {ins : List Int} (hz : sModule m ≤ 1048576)
  (h : RModule w S v m) (hS : ∀ b, S b → b < w.heap.size) (h2 : RWordState w S2 v2 st) (hS2 : ∀ b, S2 b → b < w.heap.size) (hin : Rep w S4 (.slice Ai ni' ci) (fIntS ins)) (hS4 : ∀ b, S4 b → b < w.heap.size) :
  Calls Try.prog 14 #[v, v2, .slice Ai ni' ci] w fun e w' => StepQ w w' e (stpS m st ins) (stpO m st ins) := by
 have H2 := Lib.hid h2
 obtain ⟨A0, c0, A1, c1, A2, c2, A3, c3, rfl, hSg, hAs, -, hMe, hm0, hm1, hm2, hm3⟩ := mod_open h
 obtain ⟨ns, hns⟩ : ∃ ns, m.1.length = ns := ⟨_, rfl⟩
 obtain ⟨na, hna⟩ : ∃ na, m.2.1.length = na := ⟨_, rfl⟩
 obtain ⟨ni, hni⟩ : ∃ ni, m.2.2.1.length = ni := ⟨_, rfl⟩
 obtain ⟨nm, hnm⟩ : ∃ nm, m.2.2.2.length = nm := ⟨_, rfl⟩
 rw [hns, hna, hni, hnm] at h ⊢
 rw [hns] at hSg hm0
 rw [hna] at hAs hm1
 rw [hni] at hm2
 rw [hnm] at hMe hm3
 unfold maxLen at hm0 hm1 hm2 hm3
 have Hn := Lib.hid (And.intro hns (And.intro hna (And.intro hni hnm)))
 have H := Lib.hid h
 have HSg := Lib.hid hSg
 have HAs := Lib.hid hAs
 have HMe := Lib.hid hMe
 have HB0 := Lib.hid ((Below.refl w.heap.size w).alloc (Nat.le_refl _) (.cells #[.slice A0 ns c0, .slice A1 na c1, .slice A2 ni c2, .slice A3 nm c3] 41))
 have HX0 := Lib.hid (Blk.new w 41 #[.slice A0 ns c0, .slice A1 na c1, .slice A2 ni c2, .slice A3 nm c3])
 clear hns hna hnm hni h hSg hAs hMe
 obtain ⟨V0, d0, V1, d1, rfl, hV0, hV1, hvm0, hvm1⟩ := wst_open h2
 obtain ⟨nv, hnv⟩ : ∃ nv, st.1.length = nv := ⟨_, rfl⟩
 obtain ⟨nw, hnw⟩ : ∃ nw, st.2.length = nw := ⟨_, rfl⟩
 rw [hnv] at hV0 hvm0 ⊢
 rw [hnw] at hV1 hvm1 ⊢
 unfold maxLen at hvm0 hvm1
 have HNV := Lib.hid (And.intro hnv hnw)
 have HV0 := Lib.hid hV0
 have HV1 := Lib.hid hV1
 clear hnv hnw hV0 hV1 h2
 obtain ⟨W0, hW0⟩ : ∃ W0, W0 = (w.alloc (.cells #[.slice A0 ns c0, .slice A1 na c1, .slice A2 ni c2, .slice A3 nm c3] 41)).alloc (.cells #[.slice V0 nv d0, .slice V1 nw d1] 33) := ⟨_, rfl⟩
 have hz0 : W0.heap.size = w.heap.size + 1 + 1 := by rw [hW0]; simp
 have HBW0 := Lib.hid (show Below w.heap.size w W0 by rw [hW0]; exact HB0.out.alloc (by simp) _)
 have HXM0 := Lib.hid (show Blk W0 w.heap.size 41 #[.slice A0 ns c0, .slice A1 na c1, .slice A2 ni c2, .slice A3 nm c3] by rw [hW0]; exact HX0.out.alloc _)
 have HXS0 := Lib.hid (show Blk W0 (w.heap.size + 1) 33 #[.slice V0 nv d0, .slice V1 nw d1] by rw [hW0]; exact blk_new_at (by simp))
 have HW0 := Lib.hid hW0
 clear hW0
 rw [HNV.out.1, HNV.out.2] at H2
 have hni := hin.len
 rw [List.length_map] at hni
 have Hins := Lib.hid hin
 have Hni := Lib.hid hni
 have hw0 : w.heap.size ≤ W0.heap.size := by omega
 clear hni hin
 obtain ⟨U0, hU0⟩ : ∃ U0, U0 = W0.alloc (.cells #[.slice none 0 0, .slice none 0 0] 33) := ⟨_, rfl⟩
 have hu0 : U0.heap.size = w.heap.size + 1 + 1 + 1 := by rw [hU0]; simp [hz0]
 have HBU0 := Lib.hid (show Below w.heap.size w U0 by rw [hU0]; exact HBW0.out.alloc (by omega) _)
 have HXM := Lib.hid (show Blk U0 w.heap.size 41 #[.slice A0 ns c0, .slice A1 na c1, .slice A2 ni c2, .slice A3 nm c3] by rw [hU0]; exact HXM0.out.alloc _)
 have HXS := Lib.hid (show Blk U0 (w.heap.size + 1) 33 #[.slice V0 nv d0, .slice V1 nw d1] by rw [hU0]; exact HXS0.out.alloc _)
 have HXR := Lib.hid (show Blk U0 (w.heap.size + 1 + 1) 33 #[.slice none 0 0, .slice none 0 0] by rw [hU0]; exact blk_new_at (by simp [hz0]))
 have HU0 := Lib.hid hU0
 have HZ := Lib.hid hu0
 have hzl : w.heap.size + 1 + 1 < U0.heap.size := by omega
 clear hU0 hu0 hz0
 go_enter Try.func14, Try.ntmps14
 obtain ⟨y0, y1, y2, y3⟩ := blkS4 HXM.out
 obtain ⟨z0, z1⟩ := blkS2 HXS.out
 go_wp2_with fail
 rw [← HW0.out, ← HU0.out]
 refine (i_SignalValues hz (RModule.under H.out hS HBU0.out) (fun b hb => by have := hS b hb; omega) (RWordState.under H2.out hS2 HBU0.out) (fun b hb => by have := hS2 b hb; omega) (Hins.out.under hS4 HBU0.out) (fun b hb => by have := hS4 b hb; omega)).mono ?_
 rintro e w1 ⟨vv, rfl, hqv, hb1⟩
 obtain ⟨Av, nvv, cv, rfl⟩ := slv_of hqv.rep
 have HQv := Lib.hid hqv.rep
 have HB1 := Lib.hid (HBU0.out.trans (hb1.mono (by omega)))
 have HXM1 := Lib.hid (HXM.out.below hb1 HXM.out.lt)
 have HXS1 := Lib.hid (HXS.out.below hb1 HXS.out.lt)
 have HXR1 := Lib.hid (HXR.out.below hb1 HXR.out.lt)
 have zz1 := hb1.size
 clear hb1 hqv y0 y1 y2 y3 z0 z1
 obtain ⟨y0, y1, y2, y3⟩ := blkS4 HXM1.out
 obtain ⟨z0, z1⟩ := blkS2 HXS1.out
 go_wp2_with fail
 refine (i_WordStateOk hz (RModule.under H.out hS HB1.out) (fun b hb => by have := hS b hb; omega) (RWordState.under H2.out hS2 HB1.out) (fun b hb => by have := hS2 b hb; omega)).mono ?_
 rintro e w2 ⟨rfl, hb2⟩
 have HB2 := Lib.hid (HB1.out.trans (hb2.mono (by omega)))
 have HXM2 := Lib.hid (HXM1.out.below hb2 HXM1.out.lt)
 have HXS2 := Lib.hid (HXS1.out.below hb2 HXS1.out.lt)
 have HXR2 := Lib.hid (HXR1.out.below hb2 HXR1.out.lt)
 have HQv2 := Lib.hid (HQv.out.under (fun b hb => hb.2) hb2)
 have zz2 := hb2.size
 clear hb2 y0 y1 y2 y3 z0 z1
 cases hws : wsB m st with
 | false =>
  have Hok := Lib.hid (show sigOk m st ins = false by unfold sigOk; rw [hws]; rfl)
  clear hws
  obtain ⟨r0, r1⟩ := blkS2 HXR2.out
  have f0 := HXR2.out.frozen 0
  have f1 := HXR2.out.frozen 1
  go_wp2_with fail
  obtain ⟨wf, hwf⟩ : ∃ wf, wf = ((w2.setCell ⟨w.heap.size + 1 + 1, 0, none⟩ (.slice none 0 0)).setCell ⟨w.heap.size + 1 + 1, 1, none⟩ (.slice none 0 0)) := ⟨_, rfl⟩
  have hRf : Blk wf (w.heap.size + 1 + 1) 33 #[.slice none 0 0, .slice none 0 0] := by rw [hwf]; exact blk_two HXR2.out
  have hBf : Below w.heap.size w wf := by rw [hwf]; exact (HB2.out.setCell (by simp; omega) _).setCell (by simp; omega) _
  obtain ⟨s0, s1⟩ := blkS2 hRf
  rw [← hwf]
  refine bodyPost_ret (v := .tuple #[.agg #[.slice none 0 0, .slice none 0 0], .slice none 0 0]) (by simp [results, Try.results14, go_sem, s0, s1]) rfl ⟨_, _, fun _ => False, fun _ => False, rfl, fun _ h => h.elim, fun _ h => h.elim, fun _ h => h.elim, ?_, ?_, hBf⟩
  ·unfold stpS
   rw [Hok.out]
   exact q_zeroW _ _
  ·unfold stpO
   rw [Hok.out]
   exact sep_nil _ _
 | true =>
  have Hws := Lib.hid hws
  clear hws
  obtain ⟨y0, y1, y2, y3⟩ := blkS4 HXM2.out
  obtain ⟨z0, z1⟩ := blkS2 HXS2.out
  go_wp2_with fail
  refine (i_PortWidths 0 (RModule.under H.out hS HB2.out) (fun b hb => by have := hS b hb; omega)).mono ?_
  rintro e w3 ⟨v3, rfl, hq3, hb3⟩
  obtain ⟨A3', c3', rfl, _, _⟩ := sl_form hq3.rep (List.length_map _)
  obtain ⟨np, hnp⟩ : ∃ np, (widthsM m 0).length = np := ⟨_, rfl⟩
  rw [hnp]
  have Hnp := Lib.hid hnp
  have HB3 := Lib.hid (HB2.out.trans (hb3.mono (by omega)))
  have HXM3 := Lib.hid (HXM2.out.below hb3 HXM2.out.lt)
  have HXS3 := Lib.hid (HXS2.out.below hb3 HXS2.out.lt)
  have HXR3 := Lib.hid (HXR2.out.below hb3 HXR2.out.lt)
  have HQv3 := Lib.hid (HQv2.out.under (fun b hb => by have := hb.2; omega) hb3)
  have zz3 := hb3.size
  clear hb3 hq3 hnp y0 y1 y2 y3 z0 z1
  by_cases hl : ni' = np
  rotate_left
  ·have hl' : ((ni' : Int) != (np : Int)) = true := by simp; omega
   have Hok := Lib.hid (show sigOk m st ins = false by unfold sigOk; rw [Hws.out, Hni.out, Hnp.out, decide_eq_false hl]; rfl)
   clear hl
   obtain ⟨r0, r1⟩ := blkS2 HXR3.out
   have f0 := HXR3.out.frozen 0
   have f1 := HXR3.out.frozen 1
   go_wp2_with fail
   obtain ⟨wf, hwf⟩ : ∃ wf, wf = ((w3.setCell ⟨w.heap.size + 1 + 1, 0, none⟩ (.slice none 0 0)).setCell ⟨w.heap.size + 1 + 1, 1, none⟩ (.slice none 0 0)) := ⟨_, rfl⟩
   have hRf : Blk wf (w.heap.size + 1 + 1) 33 #[.slice none 0 0, .slice none 0 0] := by rw [hwf]; exact blk_two HXR3.out
   have hBf : Below w.heap.size w wf := by rw [hwf]; exact (HB3.out.setCell (by simp; omega) _).setCell (by simp; omega) _
   obtain ⟨s0, s1⟩ := blkS2 hRf
   rw [← hwf]
   refine bodyPost_ret (v := .tuple #[.agg #[.slice none 0 0, .slice none 0 0], .slice none 0 0]) (by simp [results, Try.results14, go_sem, s0, s1]) rfl ⟨_, _, fun _ => False, fun _ => False, rfl, fun _ h => h.elim, fun _ h => h.elim, fun _ h => h.elim, ?_, ?_, hBf⟩
   ·unfold stpS
    rw [Hok.out]
    exact q_zeroW _ _
   ·unfold stpO
    rw [Hok.out]
    exact sep_nil _ _
  obtain rfl := hl
  have Hok := Lib.hid (show sigOk m st ins = true by unfold sigOk; rw [Hws.out, Hni.out, Hnp.out]; simp)
  obtain ⟨y0, y1, y2, y3⟩ := blkS4 HXM3.out
  obtain ⟨z0, z1⟩ := blkS2 HXS3.out
  go_wp2_with fail
  obtain ⟨VS, hVS⟩ : ∃ VS, VS = sigN m st ins := ⟨_, rfl⟩
  have hvl : VS.length = m.1.length := by rw [hVS]; exact sigN_len _ _
  have hwb : WB m VS := by rw [hVS]; exact sigN_wb Hws.out ins
  have HQw := Lib.hid (show Rep w3 (New U0 w1) (.slice Av nvv cv) (fIntS (nI VS)) by have h1 := HQv3.out; unfold sigL at h1; rw [Hok.out, if_pos rfl, ← hVS] at h1; exact h1)
  have hnv : VS.length = nvv := by have h1 := HQw.out.len; rw [List.length_map, nI_len] at h1; exact h1
  obtain rfl := hnv
  have hn30 : m.1.length ≤ 30 := (okE_na (flat_ok (wsB_iff Hws.out).1).1).1
  have Hvl := Lib.hid hvl
  have Hwb := Lib.hid hwb
  have Hn30 := Lib.hid hn30
  have HVS := Lib.hid hVS
  clear hVS hvl hwb hn30 y0 y1 y2 y3 z0 z1
  refine wp_region_lexC (by kernel_rfl) (by kernel_rfl) (fun x => Only (fun b => b = w.heap.size + 1 + 1) w3 x) ((Only.refl _ _).drew) (fun lexNE => ?_)
  obtain ⟨dm0, dm1, dm2, dm3⟩ := blkS4 HXM3.out
  obtain ⟨ds0, ds1⟩ := blkS2 HXS3.out
  have cm0 := ocell (S := fun b => b = w.heap.size + 1 + 1) dm0 HXM3.out.lt (by show ¬ (w.heap.size = w.heap.size + 1 + 1); omega)
  have cm1 := ocell (S := fun b => b = w.heap.size + 1 + 1) dm1 HXM3.out.lt (by show ¬ (w.heap.size = w.heap.size + 1 + 1); omega)
  have cm2 := ocell (S := fun b => b = w.heap.size + 1 + 1) dm2 HXM3.out.lt (by show ¬ (w.heap.size = w.heap.size + 1 + 1); omega)
  have cm3 := ocell (S := fun b => b = w.heap.size + 1 + 1) dm3 HXM3.out.lt (by show ¬ (w.heap.size = w.heap.size + 1 + 1); omega)
  have cs0 := ocell (S := fun b => b = w.heap.size + 1 + 1) ds0 HXS3.out.lt (by show ¬ (w.heap.size + 1 = w.heap.size + 1 + 1); omega)
  have cs1 := ocell (S := fun b => b = w.heap.size + 1 + 1) ds1 HXS3.out.lt (by show ¬ (w.heap.size + 1 = w.heap.size + 1 + 1); omega)
  clear dm0 dm1 dm2 dm3 ds0 ds1
  (repeat (first | (refine lex_r fun K hK => ?_; go_big_quiet_op; refine hK _ ?_; clear hK K) | (refine lex_k fun K hK => ?_; go_simp; refine hK _ ?_; clear hK K)))
  (refine lex_e fun K hK => ?_; go_big_op)
  refine (i_nextState Hws.out Hvl.out Hwb.out (RModule.under H.out hS HB3.out.drew) (fun b hb => by have := hS b hb; show b < w3.heap.size; omega) (RWordState.under H2.out hS2 HB3.out.drew) (fun b hb => by have := hS2 b hb; show b < w3.heap.size; omega) HQw.out.drew (fun b hb => by have := hb.2; show b < w3.heap.size; omega)).mono ?_
  rintro e w4 ⟨v4, rfl, hq4, hb4⟩
  have H4 := Lib.hid (show Below w3.heap.size w3 w4 from (Below.refl w3.heap.size w3).drew.trans hb4)
  obtain ⟨Q0, q0, d0', Q1, q1, d1', rfl⟩ := hq4.r.form
  have HQ4 := Lib.hid hq4
  have zz4 := H4.out.size
  refine hK _ _ (Cls.mk' (Only.of_below H4.out _)) ?_
  clear hK K hb4 hq4
  (repeat (first | (refine lex_r fun K hK => ?_; go_big_quiet_op; refine hK _ ?_; clear hK K) | (refine lex_k fun K hK => ?_; go_simp; refine hK _ ?_; clear hK K)))
  (refine lex_e fun K hK => ?_; go_big_op)
  refine (i_outputValues Hn30.out Hvl.out (RModule.under H.out hS (HB3.out.trans (H4.out.mono (by omega)))) (fun b hb => by have := hS b hb; omega) (HQw.out.under (fun b hb => by have := hb.2; omega) H4.out) (fun b hb => by have := hb.2; omega)).mono ?_
  rintro e w5 ⟨v5, rfl, hq5, hb5⟩
  obtain ⟨O0, no', co', rfl⟩ := slv_of hq5.rep
  have HQ5 := Lib.hid hq5
  have H45 := Lib.hid hb5
  have H5 := Lib.hid (H4.out.trans (hb5.mono (by omega)))
  have zz5 := hb5.size
  have hR5 := HXR3.out.below H5.out HXR3.out.lt
  refine hK _ _ (Cls.mk' (Only.of_below H5.out _)) ?_
  clear hK K hb5 hq5
  obtain ⟨r0, r1⟩ := blkS2 hR5
  have f0 := hR5.frozen 0
  have f1 := hR5.frozen 1
  (repeat (first | (refine lex_r fun K hK => ?_; go_big_quiet_op; refine hK _ ?_; clear hK K) | (refine lex_k fun K hK => ?_; go_simp; refine hK _ ?_; clear hK K)))
  (refine lex_e fun K hK => ?_; go_big_op)
  refine hK _ _ (Cls.mk' (((Only.of_below H5.out (fun b => b = w.heap.size + 1 + 1)).setCell (p := ⟨w.heap.size + 1 + 1, 0, none⟩) (.inl rfl) _).setCell (p := ⟨w.heap.size + 1 + 1, 1, none⟩) (.inl rfl) _)) ?_
  clear hK K
  (repeat (first | (refine lex_r fun K hK => ?_; go_big_quiet_op; refine hK _ ?_; clear hK K) | (refine lex_k fun K hK => ?_; go_simp; refine hK _ ?_; clear hK K)))
  (refine lex_nil ?_)
  clear lexNE cm0 cm1 cm2 cm3 cs0 cs1 r0 r1 f0 f1
  obtain ⟨wf, hwf⟩ : ∃ wf, wf = ((w5.setCell ⟨w.heap.size + 1 + 1, 0, none⟩ (.slice Q0 q0 d0')).setCell ⟨w.heap.size + 1 + 1, 1, none⟩ (.slice Q1 q1 d1')) := ⟨_, rfl⟩
  have hRf : Blk wf (w.heap.size + 1 + 1) 33 #[.slice Q0 q0 d0', .slice Q1 q1 d1'] := by rw [hwf]; exact blk_two hR5
  have hk2 : ∀ b, b ≠ w.heap.size + 1 + 1 → wf.heap[b]? = w5.heap[b]? := fun b hb => by
   rw [hwf]
   exact (Below.heap_setCell _ ⟨w.heap.size + 1 + 1, 1, none⟩ _ b hb).trans (Below.heap_setCell _ ⟨w.heap.size + 1 + 1, 0, none⟩ _ b hb)
  have hsf : wf.heap.size = w5.heap.size := by rw [hwf]; simp [World.setCell]
  have hBf : Below w.heap.size w wf := by rw [hwf]; exact ((HB3.out.trans (H5.out.mono (by omega))).setCell (by simp; omega) _).setCell (by simp; omega) _
  rw [← hwf]
  clear hwf
  go_wp2_with fail
  obtain ⟨s0, s1⟩ := blkS2 hRf
  refine bodyPost_ret (v := .tuple #[.agg #[.slice Q0 q0 d0', .slice Q1 q1 d1'], .slice O0 no' co']) (by simp [results, Try.results14, go_sem, s0, s1]) rfl ⟨_, _, New w3 w4, New w4 w5, rfl, fun b hb => ⟨by have := hb.1; omega, by have := hb.2; omega⟩, fun b hb => ⟨by have := hb.1; omega, by have := hb.2; omega⟩, fun b h1 h2 => by have := h1.2; have := h2.1; omega, ?_, ?_, hBf⟩
  ·unfold stpS
   rw [Hok.out, if_pos rfl, ← HVS.out]
   exact HQ4.out.keep (fun b hb => (hk2 b (by have : w3.heap.size ≤ b := hb.1; omega)).trans (H45.out.block b hb.2))
  ·unfold stpO
   rw [Hok.out, if_pos rfl, ← HVS.out]
   exact HQ5.out.keep (fun b hb => hk2 b (by have : w4.heap.size ≤ b := hb.1; omega))
end Go.Proofs.Ytlkjdhjeecogjaa
