/- Contracts: a step of a flat module: the reference's function. -/
import Derived.Test.YtlkjdhjeecogjaaStpA
import Derived.Test.YtlkjdhjeecogjaaStpB
import Derived.Test.YtlkjdhjeecogjaaSigD
import Derived.Test.YtlkjdhjeecogjaaOrd
import Derived.Deep.Cut
import Derived.Outline
namespace Go.Proofs.Ytlkjdhjeecogjaa
open Go.RowKit

theorem own_made0 {W : World} {lo n : Nat} (hm : n ≤ maxLen) (hlo : lo ≤ W.heap.size) : (W.alloc (.cells (madeCells #[.int .i64 0] n) 3)).ownsRow lo 3 1 (.slice (some ⟨W.heap.size, 0, none⟩) n n) n (ints (List.replicate n 0)) :=
 own_up (own_zeros hm (Blk.new W 3 (madeCells #[.int .i64 0] n))) (fun g hg => by have hg : W.heap.size = g := (by injection hg); omega)
theorem Only.grown {S : Nat → Prop} {w w1 w' : World} {row : Option Nat} (h : Only S w w1) (hg : w1.grownBy w' row) (hr : ∀ g, row = some g → S g ∨ w.heap.size ≤ g) : Only S w w' :=
 ⟨hg.os.trans h.os, hg.tape.trans h.tape, hg.output.trans h.output, Nat.le_trans h.size hg.size, fun b hb hs => (hg.block b (by have := h.size; omega) (fun e => by
  rcases hr b e.symm with h1 | h1
  ·exact hs h1
  ·omega)).trans (h.block b hb hs)⟩
set_option maxRecDepth 100000 in
set_option maxHeartbeats 32000000 in
theorem s_FlatStep {w : World} {S S2 S4 : Nat → Prop} {v v2 : Value} {Ai : Option Addr} {ni' ci : Nat} {m : TModule} {st : TWordState} {ins : List Int} (hz : sModule m ≤ 1048576)
  (h : RModule w S v m) (hS : ∀ b, S b → b < w.heap.size) (h2 : RWordState w S2 v2 st) (hS2 : ∀ b, S2 b → b < w.heap.size) (hin : Rep w S4 (.slice Ai ni' ci) (fIntS ins)) (hS4 : ∀ b, S4 b → b < w.heap.size) :
  Calls Try.prog 10 #[v, v2, .slice Ai ni' ci] w fun e w' => StepQ w w' e (stpS m st ins) (stpO m st ins) := by
 obtain ⟨i0, hi, hz0', hz1', hz2'⟩ := info_parts Try.infoIntC
 have H2 := Lib.hid h2
 obtain ⟨A0, c0, A1, c1, A2, c2, A3, c3, rfl, hSg, hAs, -, hMe, hm0, hm1, hm2, hm3⟩ := mod_open h
 obtain ⟨ns, hns⟩ : ∃ ns, m.1.length = ns := ⟨_, rfl⟩
 obtain ⟨na, hna⟩ : ∃ na, m.2.1.length = na := ⟨_, rfl⟩
 obtain ⟨ni, hni⟩ : ∃ ni, m.2.2.1.length = ni := ⟨_, rfl⟩
 obtain ⟨nm, hnm⟩ : ∃ nm, m.2.2.2.length = nm := ⟨_, rfl⟩
 rw [hns, hna, hni, hnm] at h ⊢
 rw [hns] at hSg hm0
 rw [hna] at hAs hm1
 rw [hni] at hm2
 rw [hnm] at hMe hm3
 unfold maxLen at hm0 hm1 hm2 hm3
 have Hn := Lib.hid (And.intro hns (And.intro hna (And.intro hni hnm)))
 have H := Lib.hid h
 have HSg := Lib.hid hSg
 have HAs := Lib.hid hAs
 have HMe := Lib.hid hMe
 have HB0 := Lib.hid ((Below.refl w.heap.size w).alloc (Nat.le_refl _) (.cells #[.slice A0 ns c0, .slice A1 na c1, .slice A2 ni c2, .slice A3 nm c3] 41))
 have HX0 := Lib.hid (Blk.new w 41 #[.slice A0 ns c0, .slice A1 na c1, .slice A2 ni c2, .slice A3 nm c3])
 clear hns hna hnm hni h hSg hAs hMe
 obtain ⟨V0, d0, V1, d1, rfl, hV0, hV1, hvm0, hvm1⟩ := wst_open h2
 obtain ⟨nv, hnv⟩ : ∃ nv, st.1.length = nv := ⟨_, rfl⟩
 obtain ⟨nw, hnw⟩ : ∃ nw, st.2.length = nw := ⟨_, rfl⟩
 rw [hnv] at hV0 hvm0 ⊢
 rw [hnw] at hV1 hvm1 ⊢
 unfold maxLen at hvm0 hvm1
 have HNV := Lib.hid (And.intro hnv hnw)
 have HV0 := Lib.hid hV0
 have HV1 := Lib.hid hV1
 clear hnv hnw hV0 hV1 h2
 obtain ⟨W0, hW0⟩ : ∃ W0, W0 = (w.alloc (.cells #[.slice A0 ns c0, .slice A1 na c1, .slice A2 ni c2, .slice A3 nm c3] 41)).alloc (.cells #[.slice V0 nv d0, .slice V1 nw d1] 33) := ⟨_, rfl⟩
 have hz0 : W0.heap.size = w.heap.size + 1 + 1 := by rw [hW0]; simp
 have HBW0 := Lib.hid (show Below w.heap.size w W0 by rw [hW0]; exact HB0.out.alloc (by simp) _)
 have HXM0 := Lib.hid (show Blk W0 w.heap.size 41 #[.slice A0 ns c0, .slice A1 na c1, .slice A2 ni c2, .slice A3 nm c3] by rw [hW0]; exact HX0.out.alloc _)
 have HXS0 := Lib.hid (show Blk W0 (w.heap.size + 1) 33 #[.slice V0 nv d0, .slice V1 nw d1] by rw [hW0]; exact blk_new_at (by simp))
 have HW0 := Lib.hid hW0
 clear hW0
 have HNW := Lib.hid HNV.out
 rw [HNV.out.1, HNV.out.2] at H2
 have hni := hin.len
 rw [List.length_map] at hni
 have Hins := Lib.hid hin
 have Hni := Lib.hid hni
 have hw0 : w.heap.size ≤ W0.heap.size := by omega
 clear hni hin
 obtain ⟨U0, hU0⟩ : ∃ U0, U0 = W0.alloc (.cells #[.slice none 0 0, .slice none 0 0] 33) := ⟨_, rfl⟩
 have hu0 : U0.heap.size = w.heap.size + 1 + 1 + 1 := by rw [hU0]; simp [hz0]
 obtain ⟨U1, hU1⟩ : ∃ U1, U1 = U0.alloc (.cells #[] 3) := ⟨_, rfl⟩
 have hu1 : U1.heap.size = U0.heap.size + 1 := by rw [hU1]; simp
 have HBU1 := Lib.hid (show Below w.heap.size w U1 by rw [hU1, hU0]; exact (HBW0.out.alloc (by omega) _).alloc (by simp; omega) _)
 have HXM := Lib.hid (show Blk U1 w.heap.size 41 #[.slice A0 ns c0, .slice A1 na c1, .slice A2 ni c2, .slice A3 nm c3] by rw [hU1, hU0]; exact (HXM0.out.alloc _).alloc _)
 have HXS := Lib.hid (show Blk U1 (w.heap.size + 1) 33 #[.slice V0 nv d0, .slice V1 nw d1] by rw [hU1, hU0]; exact (HXS0.out.alloc _).alloc _)
 have HXR := Lib.hid (show Blk U1 (w.heap.size + 1 + 1) 33 #[.slice none 0 0, .slice none 0 0] by rw [hU1, hU0]; exact (blk_new_at (by simp [hz0])).alloc _)
 have HO0 := Lib.hid (show U1.ownsRow U0.heap.size 3 1 (.slice (some ⟨U0.heap.size, 0, none⟩) 0 0) 0 (ints []) by rw [hU1]; exact World.ownsRow_made (base := U0.heap.size) (size := 1) (e := 3) U0 #[] 0 (Nat.le_refl _) (by unfold maxLen; omega) rfl)
 have HU0 := Lib.hid hU0
 have HU1 := Lib.hid hU1
 have HZ := Lib.hid hu0
 have hzl : w.heap.size + 1 + 1 < U0.heap.size := by omega
 clear hU0 hU1 hu0 hz0
 go_enter Try.func10, Try.ntmps10
 obtain ⟨y0, y1, y2, y3⟩ := blkS4 HXM.out
 obtain ⟨z0, z1⟩ := blkS2 HXS.out
 go_wp2_with fail
 rw [← HW0.out, ← HU0.out, ← HU1.out, ← HZ.out]
 refine (s_WordStateOk hz (RModule.under H.out hS HBU1.out) (fun b hb => by have := hS b hb; omega) (RWordState.under H2.out hS2 HBU1.out) (fun b hb => by have := hS2 b hb; omega)).mono ?_
 rintro e w1 ⟨rfl, hb1⟩
 have HB1 := Lib.hid (HBU1.out.trans (hb1.mono (by omega)))
 have HXM1 := Lib.hid (HXM.out.below hb1 HXM.out.lt)
 have HXS1 := Lib.hid (HXS.out.below hb1 HXS.out.lt)
 have HXR1 := Lib.hid (HXR.out.below hb1 HXR.out.lt)
 have HO1 := Lib.hid (own_below HO0.out hb1 (Nat.le_refl _))
 have zz1 := hb1.size
 clear hb1 y0 y1 y2 y3 z0 z1
 cases hws : wsB m st with
 | false =>
  have Hok := Lib.hid (show sigOk m st ins = false by unfold sigOk; rw [hws]; rfl)
  clear hws
  obtain ⟨r0, r1⟩ := blkS2 HXR1.out
  have f0 := HXR1.out.frozen 0
  have f1 := HXR1.out.frozen 1
  go_wp2_with fail
  obtain ⟨wf, hwf⟩ : ∃ wf, wf = ((w1.setCell ⟨w.heap.size + 1 + 1, 0, none⟩ (.slice none 0 0)).setCell ⟨w.heap.size + 1 + 1, 1, none⟩ (.slice none 0 0)) := ⟨_, rfl⟩
  have hRf : Blk wf (w.heap.size + 1 + 1) 33 #[.slice none 0 0, .slice none 0 0] := by rw [hwf]; exact blk_two HXR1.out
  have hBf : Below w.heap.size w wf := by rw [hwf]; exact (HB1.out.setCell (by simp; omega) _).setCell (by simp; omega) _
  have hk2 : ∀ b, b ≠ w.heap.size + 1 + 1 → wf.heap[b]? = w1.heap[b]? := fun b hb => by
   rw [hwf]
   exact (Below.heap_setCell _ ⟨w.heap.size + 1 + 1, 1, none⟩ _ b hb).trans (Below.heap_setCell _ ⟨w.heap.size + 1 + 1, 0, none⟩ _ b hb)
  have hO := own_keep HO1.out (w' := wf) (fun g hg => hk2 g (by have hg : U0.heap.size = g := (by injection hg); omega))
  obtain ⟨s0, s1⟩ := blkS2 hRf
  rw [← hwf]
  have hlo := (hO.lt _ rfl).2
  refine bodyPost_ret (v := .tuple #[.agg #[.slice none 0 0, .slice none 0 0], .slice (some ⟨U0.heap.size, 0, none⟩) 0 0]) (by simp [results, Try.results10, go_sem, s0, s1]) rfl ⟨_, _, fun _ => False, fun b => b = U0.heap.size, rfl, fun _ h => h.elim, fun b (hb : b = U0.heap.size) => by subst hb; exact ⟨by omega, hlo⟩, fun _ h _ => h.elim, ?_, ?_, hBf⟩
  ·unfold stpS
   rw [Hok.out]
   exact q_zeroW _ _
  ·unfold stpO
   rw [Hok.out]
   exact sep_ints (by unfold maxLen; omega) hO (fun g hg => by have hg : U0.heap.size = g := (by injection hg); exact hg.symm)
 | true =>
  have Hws := Lib.hid hws
  obtain ⟨hf, -, hwl, _, _⟩ := wsB_iff hws
  have hok := (flat_ok hf).1
  obtain ⟨hn30, hna30, hnm2⟩ := okE_na hok
  have HF := Lib.hid hf
  rw [Hn.out.1] at hn30
  rw [Hn.out.2.1] at hna30
  rw [Hn.out.2.2.2] at hnm2
  rw [HNW.out.2, Hn.out.2.2.2] at hwl
  have hnw8 : nw ≤ 8 := by omega
  have Hwl := Lib.hid hwl
  clear hws hok hf hwl
  obtain ⟨y0, y1, y2, y3⟩ := blkS4 HXM1.out
  obtain ⟨z0, z1⟩ := blkS2 HXS1.out
  go_wp2_with fail
  refine (s_PortWidths 0 (RModule.under H.out hS HB1.out) (fun b hb => by have := hS b hb; omega)).mono ?_
  rintro e w2 ⟨v3, rfl, hq3, hb2⟩
  obtain ⟨A3', c3', rfl, _, _⟩ := sl_form hq3.rep (List.length_map _)
  obtain ⟨np, hnp⟩ : ∃ np, (widthsM m 0).length = np := ⟨_, rfl⟩
  rw [hnp]
  have Hnp := Lib.hid hnp
  have HB2 := Lib.hid (HB1.out.trans (hb2.mono (by omega)))
  have HXM2 := Lib.hid (HXM1.out.below hb2 HXM1.out.lt)
  have HXS2 := Lib.hid (HXS1.out.below hb2 HXS1.out.lt)
  have HXR2 := Lib.hid (HXR1.out.below hb2 HXR1.out.lt)
  have HO2 := Lib.hid (own_below HO1.out hb2 (Nat.le_refl _))
  have zz2 := hb2.size
  clear hb2 hq3 hnp y0 y1 y2 y3 z0 z1
  by_cases hl : ni' = np
  rotate_left
  ·have hl' : ((ni' : Int) != (np : Int)) = true := by simp; omega
   have Hok := Lib.hid (show sigOk m st ins = false by unfold sigOk; rw [Hws.out, Hni.out, Hnp.out, decide_eq_false hl]; rfl)
   clear hl
   obtain ⟨r0, r1⟩ := blkS2 HXR2.out
   have f0 := HXR2.out.frozen 0
   have f1 := HXR2.out.frozen 1
   go_wp2_with fail
   obtain ⟨wf, hwf⟩ : ∃ wf, wf = ((w2.setCell ⟨w.heap.size + 1 + 1, 0, none⟩ (.slice none 0 0)).setCell ⟨w.heap.size + 1 + 1, 1, none⟩ (.slice none 0 0)) := ⟨_, rfl⟩
   have hRf : Blk wf (w.heap.size + 1 + 1) 33 #[.slice none 0 0, .slice none 0 0] := by rw [hwf]; exact blk_two HXR2.out
   have hBf : Below w.heap.size w wf := by rw [hwf]; exact (HB2.out.setCell (by simp; omega) _).setCell (by simp; omega) _
   have hk2 : ∀ b, b ≠ w.heap.size + 1 + 1 → wf.heap[b]? = w2.heap[b]? := fun b hb => by
    rw [hwf]
    exact (Below.heap_setCell _ ⟨w.heap.size + 1 + 1, 1, none⟩ _ b hb).trans (Below.heap_setCell _ ⟨w.heap.size + 1 + 1, 0, none⟩ _ b hb)
   have hO := own_keep HO2.out (w' := wf) (fun g hg => hk2 g (by have hg : U0.heap.size = g := (by injection hg); omega))
   obtain ⟨s0, s1⟩ := blkS2 hRf
   rw [← hwf]
   have hlo := (hO.lt _ rfl).2
   refine bodyPost_ret (v := .tuple #[.agg #[.slice none 0 0, .slice none 0 0], .slice (some ⟨U0.heap.size, 0, none⟩) 0 0]) (by simp [results, Try.results10, go_sem, s0, s1]) rfl ⟨_, _, fun _ => False, fun b => b = U0.heap.size, rfl, fun _ h => h.elim, fun b (hb : b = U0.heap.size) => by subst hb; exact ⟨by omega, hlo⟩, fun _ h _ => h.elim, ?_, ?_, hBf⟩
   ·unfold stpS
    rw [Hok.out]
    exact q_zeroW _ _
   ·unfold stpO
    rw [Hok.out]
    exact sep_ints (by unfold maxLen; omega) hO (fun g hg => by have hg : U0.heap.size = g := (by injection hg); exact hg.symm)
  obtain rfl := hl
  have Hok := Lib.hid (show sigOk m st ins = true by unfold sigOk; rw [Hws.out, Hni.out, Hnp.out]; simp)
  obtain ⟨y0, y1, y2, y3⟩ := blkS4 HXM2.out
  obtain ⟨z0, z1⟩ := blkS2 HXS2.out
  go_wp2_with fail
  refine (s_SignalValues hz (RModule.under H.out hS HB2.out) (fun b hb => by have := hS b hb; omega) (RWordState.under H2.out hS2 HB2.out) (fun b hb => by have := hS2 b hb; omega) (Hins.out.under hS4 HB2.out) (fun b hb => by have := hS4 b hb; omega)).mono ?_
  rintro e w3 ⟨vv, rfl, hqv, hb3⟩
  obtain ⟨VS, hVS⟩ : ∃ VS, VS = sigN m st ins := ⟨_, rfl⟩
  have hvl : VS.length = m.1.length := by rw [hVS]; exact sigN_len _ _
  have hwb : WB m VS := by rw [hVS]; exact sigN_wb Hws.out ins
  have hqw : Rep w3 (New w2 w3) vv (fIntS (nI VS)) := by have h1 := hqv.rep; unfold sigL at h1; rw [Hok.out, if_pos rfl, ← hVS] at h1; exact h1
  obtain ⟨Av, nvv, cv, rfl⟩ := slv_of hqw
  have hnv : VS.length = nvv := by have h1 := hqw.len; rw [List.length_map, nI_len] at h1; exact h1
  rw [Hn.out.1] at hvl
  obtain rfl : ns = nvv := by omega
  have HQv := Lib.hid hqw
  have HB3 := Lib.hid (HB2.out.trans (hb3.mono (by omega)))
  have HXM3 := Lib.hid (HXM2.out.below hb3 HXM2.out.lt)
  have HXS3 := Lib.hid (HXS2.out.below hb3 HXS2.out.lt)
  have HXR3 := Lib.hid (HXR2.out.below hb3 HXR2.out.lt)
  have HO3 := Lib.hid (own_below HO2.out hb3 (Nat.le_refl _))
  have zz3 := hb3.size
  have Hvl := Lib.hid hvl
  have Hwb := Lib.hid hwb
  have HVS := Lib.hid hVS
  clear hb3 hqv hqw hVS hvl hnv hwb y0 y1 y2 y3 z0 z1
  have hcs : (Value.int .i64 0).cells = #[.int .i64 0] := rfl
  have hmk1 := fun W => run_make_rowN (P := Try.prog) 28 3 i0 (.int .i64 0) Try.underlying28 hi hz0' .i64 .i64 ns ns (Nat.le_refl _) (by rw [hz2']; omega) (by omega) W
  simp only [hz1', hcs, Nat.mul_one] at hmk1
  clear hcs
  go_wp2_with fail
  go_cut [10] from 46 (fun pv wc => ∃ gb g1 g2 c2' : Nat, pv = .pointer (some ⟨gb, 0, none⟩) ∧ StepI w3 wc ns nw c2' gb g1 g2 st.2)
  case first =>
   refine wp_region_tree (.node 3 4 (.node 3 9 (.node 4 9 (.node 7 9 (.leaf [0, 1, 2, 3, 4, 5, 6, 7, 9, 8, 10]) (.leaf [0, 1, 2, 3, 4, 9, 5, 6, 7, 8, 10])) (.leaf [0, 1, 2, 3, 9, 4, 5, 6, 7, 8, 10])) (.leaf [9, 0, 1, 2, 3, 4, 5, 6, 7, 8, 10])) (.node 3 7 (.node 3 9 (.node 7 9 (.leaf [4, 0, 1, 2, 3, 5, 6, 7, 9, 8, 10]) (.leaf [4, 0, 1, 2, 3, 9, 5, 6, 7, 8, 10])) (.node 4 9 (.leaf [4, 9, 0, 1, 2, 3, 5, 6, 7, 8, 10]) (.leaf [9, 4, 0, 1, 2, 3, 5, 6, 7, 8, 10]))) (.node 3 9 (.leaf [4, 5, 6, 7, 0, 1, 2, 3, 9, 8, 10]) (.node 4 9 (.node 7 9 (.leaf [4, 5, 6, 7, 9, 0, 1, 2, 3, 8, 10]) (.leaf [4, 9, 5, 6, 7, 0, 1, 2, 3, 8, 10])) (.leaf [9, 4, 5, 6, 7, 0, 1, 2, 3, 8, 10]))))) (by kernel_rfl) (by kernel_rfl) (fun x => Below w3.heap.size w3 x) ((Below.refl _ _).drew) (fun lexNE => ?_)
   simp only [OrdT.orders, List.cons_append, List.nil_append, AllL, ordOps, List.filterMap_cons, List.filterMap_nil, List.getElem?_cons_zero, List.getElem?_cons_succ, and_true]
   refine ⟨?_, ?_, ?_, ?_, ?_, ?_, ?_, ?_, ?_, ?_, ?_, ?_⟩
   all_goals
    obtain ⟨cm0, cm1, cm2, cm3⟩ := bwS4 HXM3.out HXM3.out.lt
    obtain ⟨cs0, cs1⟩ := bwS2 HXS3.out HXS3.out.lt
    obtain ⟨D, hD⟩ : ∃ D, D = w3.drew := ⟨_, rfl⟩
    rw [← hD]
    have zD : w3.heap.size ≤ D.heap.size := by rw [hD]; exact Nat.le_refl _
    have HA := Lib.hid (show Below w3.heap.size w3 D by rw [hD]; exact (Below.refl _ _).drew)
    clear hD
   ·(repeat (first | (refine lex_r fun K hK => ?_; go_big_quiet_op; refine hK _ ?_; clear hK K) | (refine lex_k fun K hK => ?_; go_simp; refine hK _ ?_; clear hK K)))
    (refine lex_e fun K hK => ?_; go_big_op)
    obtain ⟨D1, hD1⟩ : ∃ x, x = D.alloc (.cells (madeCells #[.int .i64 0] ns) 3) := ⟨_, rfl⟩
    rw [← hD1]
    have bD1 : Below D.heap.size D D1 := by rw [hD1]; exact (Below.refl _ _).alloc (Nat.le_refl _) _
    have zD1 : D.heap.size + 1 ≤ D1.heap.size := by rw [hD1]; simp
    have HsD1 := Lib.hid bD1
    have HA := Lib.hid (HA.out.trans (bD1.mono (by omega)))
    (try have F0 := Lib.hid (own_below F0.out bD1 (Nat.le_refl _)))
    (try have F1 := Lib.hid (own_below F1.out bD1 (Nat.le_refl _)))
    (try have F2 := Lib.hid (own_below F2.out bD1 (Nat.le_refl _)))
    (try have F3 := Lib.hid (F3.out.below bD1 F3.out.lt))
    obtain ⟨g1, hg1⟩ : ∃ g, g = D.heap.size := ⟨_, rfl⟩
    have F1 := Lib.hid (show D1.ownsRow w3.heap.size 3 1 (.slice (some ⟨g1, 0, none⟩) ns ns) ns (ints (List.replicate ns 0)) by rw [hD1, hg1]; exact own_made0 (by unfold maxLen; omega) (by omega))
    rw [← hg1]
    have lg1a : D.heap.size ≤ g1 := by omega
    have lg1b : g1 < D1.heap.size := by omega
    clear hg1
    refine hK _ _ (Cls.mk' HA.out) ?_
    clear hK K hD1 bD1
    (repeat (first | (refine lex_r fun K hK => ?_; go_big_quiet_op; refine hK _ ?_; clear hK K) | (refine lex_k fun K hK => ?_; go_simp; refine hK _ ?_; clear hK K)))
    (refine lex_e fun K hK => ?_; go_big_op)
    obtain ⟨D2, hD2⟩ : ∃ x, x = D1.alloc (.cells #[] 3) := ⟨_, rfl⟩
    rw [← hD2]
    have bD2 : Below D1.heap.size D1 D2 := by rw [hD2]; exact (Below.refl _ _).alloc (Nat.le_refl _) _
    have zD2 : D1.heap.size + 1 ≤ D2.heap.size := by rw [hD2]; simp
    have HsD2 := Lib.hid bD2
    have HA := Lib.hid (HA.out.trans (bD2.mono (by omega)))
    (try have F0 := Lib.hid (own_below F0.out bD2 (Nat.le_refl _)))
    (try have F1 := Lib.hid (own_below F1.out bD2 (Nat.le_refl _)))
    (try have F2 := Lib.hid (own_below F2.out bD2 (Nat.le_refl _)))
    (try have F3 := Lib.hid (F3.out.below bD2 F3.out.lt))
    obtain ⟨g0, hg0⟩ : ∃ g, g = D1.heap.size := ⟨_, rfl⟩
    have F0 := Lib.hid (show D2.ownsRow w3.heap.size 3 1 (.slice (some ⟨g0, 0, none⟩) 0 0) 0 [] by rw [hD2, hg0]; exact own_up (World.ownsRow_made (base := D1.heap.size) (size := 1) (e := 3) D1 #[] 0 (Nat.le_refl _) (by unfold maxLen; omega) rfl) (fun g hg => by have hg : D1.heap.size = g := (by injection hg); omega))
    rw [← hg0]
    have lg0a : D1.heap.size ≤ g0 := by omega
    have lg0b : g0 < D2.heap.size := by omega
    clear hg0
    refine hK _ _ (Cls.mk' HA.out) ?_
    clear hK K hD2 bD2
    (repeat (first | (refine lex_r fun K hK => ?_; go_big_quiet_op; refine hK _ ?_; clear hK K) | (refine lex_k fun K hK => ?_; go_simp; refine hK _ ?_; clear hK K)))
    refine lex_e fun K hK => ?_
    have hrd := rep_reads (HV1.out.under hS2 (HB3.out.trans (HA.out.mono (by omega)))) (B := D2.heap.size) (fun b hb => by have := hS2 b hb; omega)
    refine wp_append_any _ _ _ 28 (by rfl) w3.heap.size 3 i0 (.int .i64 0) 1 8 Try.underlying28 hi hz0' hz1' hz2' rfl (by decide) _ _ _ (by rfl) F0.out _ _ nw d1 (ints st.2) (by rfl) hrd (ints_one _) (by unfold maxLen; omega) (by omega) (by omega) ?_
    intro v7 D3 hown7 hgrow7 hblk7
    go_simp
    rw [Nat.zero_add, List.nil_append] at hown7
    obtain ⟨g2, c2', rfl⟩ : ∃ g c, v7 = .slice (some ⟨g, 0, none⟩) nw c := by
     rcases hown7.2 with ⟨rfl, _⟩ | ⟨g, cap, cur, rfl, _⟩
     ·exfalso
      rcases hblk7 with h1 | h1
      ·have h2 : (none : Option Nat) = some _ := h1
       cases h2
      ·have h2 : (none : Option Nat) = some _ := h1
       cases h2
     ·exact ⟨g, cap, rfl⟩
    have hg2 : g2 = g0 ∨ g2 = D2.heap.size := by
     rcases hblk7 with h1 | h1
     ·exact .inl (by injection h1)
     ·exact .inr (by injection h1)
    have zD3 : D2.heap.size ≤ D3.heap.size := hgrow7.size
    have hl2 := (hown7.lt g2 rfl).2
    have hkp : ∀ b, b < D2.heap.size → b ≠ g0 → D3.heap[b]? = D2.heap[b]? := fun b h1 h2 => hgrow7.block b h1 (fun e => h2 (by injection e))
    have HA := Lib.hid (HA.out.trans (below_of_grown hgrow7 (by omega) (fun g hg => by have hg : g0 = g := (by injection hg); omega)))
    (try have F1 := Lib.hid (own_keep F1.out (fun g hg => hkp g (by have := (F1.out.lt g hg).2; omega) (by have hg : g1 = g := (by injection hg); omega))))
    (try have F3 := Lib.hid (show Blk D3 gb 33 #[.slice none 0 0, .slice none 0 0] from (hkp gb F3.out.lt (by omega)).trans F3.out))
    have F2 := Lib.hid hown7
    refine hK _ _ (Cls.mk' HA.out) ?_
    clear hK K hown7 hgrow7 hblk7 hrd hkp
    (repeat (first | (refine lex_r fun K hK => ?_; go_big_quiet_op; refine hK _ ?_; clear hK K) | (refine lex_k fun K hK => ?_; go_simp; refine hK _ ?_; clear hK K)))
    (refine lex_e fun K hK => ?_; go_big_op)
    obtain ⟨D4, hD4⟩ : ∃ x, x = D3.alloc (.cells #[.slice none 0 0, .slice none 0 0] 33) := ⟨_, rfl⟩
    rw [← hD4]
    have bD4 : Below D3.heap.size D3 D4 := by rw [hD4]; exact (Below.refl _ _).alloc (Nat.le_refl _) _
    have zD4 : D3.heap.size + 1 ≤ D4.heap.size := by rw [hD4]; simp
    have HsD4 := Lib.hid bD4
    have HA := Lib.hid (HA.out.trans (bD4.mono (by omega)))
    (try have F0 := Lib.hid (own_below F0.out bD4 (Nat.le_refl _)))
    (try have F1 := Lib.hid (own_below F1.out bD4 (Nat.le_refl _)))
    (try have F2 := Lib.hid (own_below F2.out bD4 (Nat.le_refl _)))
    (try have F3 := Lib.hid (F3.out.below bD4 F3.out.lt))
    obtain ⟨gb, hgb⟩ : ∃ g, g = D3.heap.size := ⟨_, rfl⟩
    have F3 := Lib.hid (show Blk D4 gb 33 #[.slice none 0 0, .slice none 0 0] by rw [hD4, hgb]; exact Blk.new _ _ _)
    rw [← hgb]
    have lgba : D3.heap.size ≤ gb := by omega
    have lgbb : gb < D4.heap.size := by omega
    clear hgb
    refine hK _ _ (Cls.mk' HA.out) ?_
    clear hK K hD4 bD4
    clear cs0 cs1 cm0 cm1 cm2 cm3
    obtain ⟨q0, q1⟩ := blkS2 F3.out
    have f0 := F3.out.frozen 0
    have f1 := F3.out.frozen 1
    (repeat (first | (refine lex_r fun K hK => ?_; go_big_quiet_op; refine hK _ ?_; clear hK K) | (refine lex_k fun K hK => ?_; go_simp; refine hK _ ?_; clear hK K)))
    (refine lex_e fun K hK => ?_; go_big_op)
    obtain ⟨wx, hwx⟩ : ∃ x, x = ((D4.setCell ⟨gb, 0, none⟩ (.slice (some ⟨g1, 0, none⟩) ns ns)).setCell ⟨gb, 1, none⟩ (.slice (some ⟨g2, 0, none⟩) nw c2')) := ⟨_, rfl⟩
    rw [← hwx]
    have HA := Lib.hid (show Below w3.heap.size w3 wx by rw [hwx]; exact (HA.out.setCell (by show w3.heap.size ≤ gb; omega) _).setCell (by show w3.heap.size ≤ gb; omega) _)
    refine hK _ _ (Cls.mk' HA.out) ?_
    clear hK K q0 q1 f0 f1
    (repeat (first | (refine lex_r fun K hK => ?_; go_big_quiet_op; refine hK _ ?_; clear hK K) | (refine lex_k fun K hK => ?_; go_simp; refine hK _ ?_; clear hK K)))
    (refine lex_nil ?_)
    refine ⟨Cls.mk' HA.out, ?_⟩
    clear lexNE
    go_wp2_with fail
    go_meet
    case rel =>
     have hk2 : ∀ b, b ≠ gb → wx.heap[b]? = D4.heap[b]? := fun b hb => by
      rw [hwx]
      exact (Below.heap_setCell _ ⟨gb, 1, none⟩ _ b hb).trans (Below.heap_setCell _ ⟨gb, 0, none⟩ _ b hb)
     refine ⟨gb, g1, g2, c2', rfl, ?_, ?_, ?_, ⟨by omega, by omega, by omega⟩, ⟨by omega, by omega, by omega⟩, HA.out⟩
     ·exact own_keep F1.out (fun g hg => hk2 g (by have hg : g1 = g := (by injection hg); omega))
     ·exact own_keep F2.out (fun g hg => hk2 g (by have hg : g2 = g := (by injection hg); omega))
     ·rw [hwx]
      exact blk_two F3.out
   ·(repeat (first | (refine lex_r fun K hK => ?_; go_big_quiet_op; refine hK _ ?_; clear hK K) | (refine lex_k fun K hK => ?_; go_simp; refine hK _ ?_; clear hK K)))
    (refine lex_e fun K hK => ?_; go_big_op)
    obtain ⟨D1, hD1⟩ : ∃ x, x = D.alloc (.cells (madeCells #[.int .i64 0] ns) 3) := ⟨_, rfl⟩
    rw [← hD1]
    have bD1 : Below D.heap.size D D1 := by rw [hD1]; exact (Below.refl _ _).alloc (Nat.le_refl _) _
    have zD1 : D.heap.size + 1 ≤ D1.heap.size := by rw [hD1]; simp
    have HsD1 := Lib.hid bD1
    have HA := Lib.hid (HA.out.trans (bD1.mono (by omega)))
    (try have F0 := Lib.hid (own_below F0.out bD1 (Nat.le_refl _)))
    (try have F1 := Lib.hid (own_below F1.out bD1 (Nat.le_refl _)))
    (try have F2 := Lib.hid (own_below F2.out bD1 (Nat.le_refl _)))
    (try have F3 := Lib.hid (F3.out.below bD1 F3.out.lt))
    obtain ⟨g1, hg1⟩ : ∃ g, g = D.heap.size := ⟨_, rfl⟩
    have F1 := Lib.hid (show D1.ownsRow w3.heap.size 3 1 (.slice (some ⟨g1, 0, none⟩) ns ns) ns (ints (List.replicate ns 0)) by rw [hD1, hg1]; exact own_made0 (by unfold maxLen; omega) (by omega))
    rw [← hg1]
    have lg1a : D.heap.size ≤ g1 := by omega
    have lg1b : g1 < D1.heap.size := by omega
    clear hg1
    refine hK _ _ (Cls.mk' HA.out) ?_
    clear hK K hD1 bD1
    (repeat (first | (refine lex_r fun K hK => ?_; go_big_quiet_op; refine hK _ ?_; clear hK K) | (refine lex_k fun K hK => ?_; go_simp; refine hK _ ?_; clear hK K)))
    (refine lex_e fun K hK => ?_; go_big_op)
    obtain ⟨D2, hD2⟩ : ∃ x, x = D1.alloc (.cells #[] 3) := ⟨_, rfl⟩
    rw [← hD2]
    have bD2 : Below D1.heap.size D1 D2 := by rw [hD2]; exact (Below.refl _ _).alloc (Nat.le_refl _) _
    have zD2 : D1.heap.size + 1 ≤ D2.heap.size := by rw [hD2]; simp
    have HsD2 := Lib.hid bD2
    have HA := Lib.hid (HA.out.trans (bD2.mono (by omega)))
    (try have F0 := Lib.hid (own_below F0.out bD2 (Nat.le_refl _)))
    (try have F1 := Lib.hid (own_below F1.out bD2 (Nat.le_refl _)))
    (try have F2 := Lib.hid (own_below F2.out bD2 (Nat.le_refl _)))
    (try have F3 := Lib.hid (F3.out.below bD2 F3.out.lt))
    obtain ⟨g0, hg0⟩ : ∃ g, g = D1.heap.size := ⟨_, rfl⟩
    have F0 := Lib.hid (show D2.ownsRow w3.heap.size 3 1 (.slice (some ⟨g0, 0, none⟩) 0 0) 0 [] by rw [hD2, hg0]; exact own_up (World.ownsRow_made (base := D1.heap.size) (size := 1) (e := 3) D1 #[] 0 (Nat.le_refl _) (by unfold maxLen; omega) rfl) (fun g hg => by have hg : D1.heap.size = g := (by injection hg); omega))
    rw [← hg0]
    have lg0a : D1.heap.size ≤ g0 := by omega
    have lg0b : g0 < D2.heap.size := by omega
    clear hg0
    refine hK _ _ (Cls.mk' HA.out) ?_
    clear hK K hD2 bD2
    (repeat (first | (refine lex_r fun K hK => ?_; go_big_quiet_op; refine hK _ ?_; clear hK K) | (refine lex_k fun K hK => ?_; go_simp; refine hK _ ?_; clear hK K)))
    (refine lex_e fun K hK => ?_; go_big_op)
    obtain ⟨D3, hD3⟩ : ∃ x, x = D2.alloc (.cells #[.slice none 0 0, .slice none 0 0] 33) := ⟨_, rfl⟩
    rw [← hD3]
    have bD3 : Below D2.heap.size D2 D3 := by rw [hD3]; exact (Below.refl _ _).alloc (Nat.le_refl _) _
    have zD3 : D2.heap.size + 1 ≤ D3.heap.size := by rw [hD3]; simp
    have HsD3 := Lib.hid bD3
    have HA := Lib.hid (HA.out.trans (bD3.mono (by omega)))
    (try have F0 := Lib.hid (own_below F0.out bD3 (Nat.le_refl _)))
    (try have F1 := Lib.hid (own_below F1.out bD3 (Nat.le_refl _)))
    (try have F2 := Lib.hid (own_below F2.out bD3 (Nat.le_refl _)))
    (try have F3 := Lib.hid (F3.out.below bD3 F3.out.lt))
    obtain ⟨gb, hgb⟩ : ∃ g, g = D2.heap.size := ⟨_, rfl⟩
    have F3 := Lib.hid (show Blk D3 gb 33 #[.slice none 0 0, .slice none 0 0] by rw [hD3, hgb]; exact Blk.new _ _ _)
    rw [← hgb]
    have lgba : D2.heap.size ≤ gb := by omega
    have lgbb : gb < D3.heap.size := by omega
    clear hgb
    refine hK _ _ (Cls.mk' HA.out) ?_
    clear hK K hD3 bD3
    (repeat (first | (refine lex_r fun K hK => ?_; go_big_quiet_op; refine hK _ ?_; clear hK K) | (refine lex_k fun K hK => ?_; go_simp; refine hK _ ?_; clear hK K)))
    refine lex_e fun K hK => ?_
    have hrd := rep_reads (HV1.out.under hS2 (HB3.out.trans (HA.out.mono (by omega)))) (B := D3.heap.size) (fun b hb => by have := hS2 b hb; omega)
    refine wp_append_any _ _ _ 28 (by rfl) w3.heap.size 3 i0 (.int .i64 0) 1 8 Try.underlying28 hi hz0' hz1' hz2' rfl (by decide) _ _ _ (by rfl) F0.out _ _ nw d1 (ints st.2) (by rfl) hrd (ints_one _) (by unfold maxLen; omega) (by omega) (by omega) ?_
    intro v7 D4 hown7 hgrow7 hblk7
    go_simp
    rw [Nat.zero_add, List.nil_append] at hown7
    obtain ⟨g2, c2', rfl⟩ : ∃ g c, v7 = .slice (some ⟨g, 0, none⟩) nw c := by
     rcases hown7.2 with ⟨rfl, _⟩ | ⟨g, cap, cur, rfl, _⟩
     ·exfalso
      rcases hblk7 with h1 | h1
      ·have h2 : (none : Option Nat) = some _ := h1
       cases h2
      ·have h2 : (none : Option Nat) = some _ := h1
       cases h2
     ·exact ⟨g, cap, rfl⟩
    have hg2 : g2 = g0 ∨ g2 = D3.heap.size := by
     rcases hblk7 with h1 | h1
     ·exact .inl (by injection h1)
     ·exact .inr (by injection h1)
    have zD4 : D3.heap.size ≤ D4.heap.size := hgrow7.size
    have hl2 := (hown7.lt g2 rfl).2
    have hkp : ∀ b, b < D3.heap.size → b ≠ g0 → D4.heap[b]? = D3.heap[b]? := fun b h1 h2 => hgrow7.block b h1 (fun e => h2 (by injection e))
    have HA := Lib.hid (HA.out.trans (below_of_grown hgrow7 (by omega) (fun g hg => by have hg : g0 = g := (by injection hg); omega)))
    (try have F1 := Lib.hid (own_keep F1.out (fun g hg => hkp g (by have := (F1.out.lt g hg).2; omega) (by have hg : g1 = g := (by injection hg); omega))))
    (try have F3 := Lib.hid (show Blk D4 gb 33 #[.slice none 0 0, .slice none 0 0] from (hkp gb F3.out.lt (by omega)).trans F3.out))
    have F2 := Lib.hid hown7
    refine hK _ _ (Cls.mk' HA.out) ?_
    clear hK K hown7 hgrow7 hblk7 hrd hkp
    clear cs0 cs1 cm0 cm1 cm2 cm3
    obtain ⟨q0, q1⟩ := blkS2 F3.out
    have f0 := F3.out.frozen 0
    have f1 := F3.out.frozen 1
    (repeat (first | (refine lex_r fun K hK => ?_; go_big_quiet_op; refine hK _ ?_; clear hK K) | (refine lex_k fun K hK => ?_; go_simp; refine hK _ ?_; clear hK K)))
    (refine lex_e fun K hK => ?_; go_big_op)
    obtain ⟨wx, hwx⟩ : ∃ x, x = ((D4.setCell ⟨gb, 0, none⟩ (.slice (some ⟨g1, 0, none⟩) ns ns)).setCell ⟨gb, 1, none⟩ (.slice (some ⟨g2, 0, none⟩) nw c2')) := ⟨_, rfl⟩
    rw [← hwx]
    have HA := Lib.hid (show Below w3.heap.size w3 wx by rw [hwx]; exact (HA.out.setCell (by show w3.heap.size ≤ gb; omega) _).setCell (by show w3.heap.size ≤ gb; omega) _)
    refine hK _ _ (Cls.mk' HA.out) ?_
    clear hK K q0 q1 f0 f1
    (repeat (first | (refine lex_r fun K hK => ?_; go_big_quiet_op; refine hK _ ?_; clear hK K) | (refine lex_k fun K hK => ?_; go_simp; refine hK _ ?_; clear hK K)))
    (refine lex_nil ?_)
    refine ⟨Cls.mk' HA.out, ?_⟩
    clear lexNE
    go_wp2_with fail
    go_meet
    case rel =>
     have hk2 : ∀ b, b ≠ gb → wx.heap[b]? = D4.heap[b]? := fun b hb => by
      rw [hwx]
      exact (Below.heap_setCell _ ⟨gb, 1, none⟩ _ b hb).trans (Below.heap_setCell _ ⟨gb, 0, none⟩ _ b hb)
     refine ⟨gb, g1, g2, c2', rfl, ?_, ?_, ?_, ⟨by omega, by omega, by omega⟩, ⟨by omega, by omega, by omega⟩, HA.out⟩
     ·exact own_keep F1.out (fun g hg => hk2 g (by have hg : g1 = g := (by injection hg); omega))
     ·exact own_keep F2.out (fun g hg => hk2 g (by have hg : g2 = g := (by injection hg); omega))
     ·rw [hwx]
      exact blk_two F3.out
   ·(repeat (first | (refine lex_r fun K hK => ?_; go_big_quiet_op; refine hK _ ?_; clear hK K) | (refine lex_k fun K hK => ?_; go_simp; refine hK _ ?_; clear hK K)))
    (refine lex_e fun K hK => ?_; go_big_op)
    obtain ⟨D1, hD1⟩ : ∃ x, x = D.alloc (.cells (madeCells #[.int .i64 0] ns) 3) := ⟨_, rfl⟩
    rw [← hD1]
    have bD1 : Below D.heap.size D D1 := by rw [hD1]; exact (Below.refl _ _).alloc (Nat.le_refl _) _
    have zD1 : D.heap.size + 1 ≤ D1.heap.size := by rw [hD1]; simp
    have HsD1 := Lib.hid bD1
    have HA := Lib.hid (HA.out.trans (bD1.mono (by omega)))
    (try have F0 := Lib.hid (own_below F0.out bD1 (Nat.le_refl _)))
    (try have F1 := Lib.hid (own_below F1.out bD1 (Nat.le_refl _)))
    (try have F2 := Lib.hid (own_below F2.out bD1 (Nat.le_refl _)))
    (try have F3 := Lib.hid (F3.out.below bD1 F3.out.lt))
    obtain ⟨g1, hg1⟩ : ∃ g, g = D.heap.size := ⟨_, rfl⟩
    have F1 := Lib.hid (show D1.ownsRow w3.heap.size 3 1 (.slice (some ⟨g1, 0, none⟩) ns ns) ns (ints (List.replicate ns 0)) by rw [hD1, hg1]; exact own_made0 (by unfold maxLen; omega) (by omega))
    rw [← hg1]
    have lg1a : D.heap.size ≤ g1 := by omega
    have lg1b : g1 < D1.heap.size := by omega
    clear hg1
    refine hK _ _ (Cls.mk' HA.out) ?_
    clear hK K hD1 bD1
    (repeat (first | (refine lex_r fun K hK => ?_; go_big_quiet_op; refine hK _ ?_; clear hK K) | (refine lex_k fun K hK => ?_; go_simp; refine hK _ ?_; clear hK K)))
    (refine lex_e fun K hK => ?_; go_big_op)
    obtain ⟨D2, hD2⟩ : ∃ x, x = D1.alloc (.cells #[.slice none 0 0, .slice none 0 0] 33) := ⟨_, rfl⟩
    rw [← hD2]
    have bD2 : Below D1.heap.size D1 D2 := by rw [hD2]; exact (Below.refl _ _).alloc (Nat.le_refl _) _
    have zD2 : D1.heap.size + 1 ≤ D2.heap.size := by rw [hD2]; simp
    have HsD2 := Lib.hid bD2
    have HA := Lib.hid (HA.out.trans (bD2.mono (by omega)))
    (try have F0 := Lib.hid (own_below F0.out bD2 (Nat.le_refl _)))
    (try have F1 := Lib.hid (own_below F1.out bD2 (Nat.le_refl _)))
    (try have F2 := Lib.hid (own_below F2.out bD2 (Nat.le_refl _)))
    (try have F3 := Lib.hid (F3.out.below bD2 F3.out.lt))
    obtain ⟨gb, hgb⟩ : ∃ g, g = D1.heap.size := ⟨_, rfl⟩
    have F3 := Lib.hid (show Blk D2 gb 33 #[.slice none 0 0, .slice none 0 0] by rw [hD2, hgb]; exact Blk.new _ _ _)
    rw [← hgb]
    have lgba : D1.heap.size ≤ gb := by omega
    have lgbb : gb < D2.heap.size := by omega
    clear hgb
    refine hK _ _ (Cls.mk' HA.out) ?_
    clear hK K hD2 bD2
    (repeat (first | (refine lex_r fun K hK => ?_; go_big_quiet_op; refine hK _ ?_; clear hK K) | (refine lex_k fun K hK => ?_; go_simp; refine hK _ ?_; clear hK K)))
    (refine lex_e fun K hK => ?_; go_big_op)
    obtain ⟨D3, hD3⟩ : ∃ x, x = D2.alloc (.cells #[] 3) := ⟨_, rfl⟩
    rw [← hD3]
    have bD3 : Below D2.heap.size D2 D3 := by rw [hD3]; exact (Below.refl _ _).alloc (Nat.le_refl _) _
    have zD3 : D2.heap.size + 1 ≤ D3.heap.size := by rw [hD3]; simp
    have HsD3 := Lib.hid bD3
    have HA := Lib.hid (HA.out.trans (bD3.mono (by omega)))
    (try have F0 := Lib.hid (own_below F0.out bD3 (Nat.le_refl _)))
    (try have F1 := Lib.hid (own_below F1.out bD3 (Nat.le_refl _)))
    (try have F2 := Lib.hid (own_below F2.out bD3 (Nat.le_refl _)))
    (try have F3 := Lib.hid (F3.out.below bD3 F3.out.lt))
    obtain ⟨g0, hg0⟩ : ∃ g, g = D2.heap.size := ⟨_, rfl⟩
    have F0 := Lib.hid (show D3.ownsRow w3.heap.size 3 1 (.slice (some ⟨g0, 0, none⟩) 0 0) 0 [] by rw [hD3, hg0]; exact own_up (World.ownsRow_made (base := D2.heap.size) (size := 1) (e := 3) D2 #[] 0 (Nat.le_refl _) (by unfold maxLen; omega) rfl) (fun g hg => by have hg : D2.heap.size = g := (by injection hg); omega))
    rw [← hg0]
    have lg0a : D2.heap.size ≤ g0 := by omega
    have lg0b : g0 < D3.heap.size := by omega
    clear hg0
    refine hK _ _ (Cls.mk' HA.out) ?_
    clear hK K hD3 bD3
    (repeat (first | (refine lex_r fun K hK => ?_; go_big_quiet_op; refine hK _ ?_; clear hK K) | (refine lex_k fun K hK => ?_; go_simp; refine hK _ ?_; clear hK K)))
    refine lex_e fun K hK => ?_
    have hrd := rep_reads (HV1.out.under hS2 (HB3.out.trans (HA.out.mono (by omega)))) (B := D3.heap.size) (fun b hb => by have := hS2 b hb; omega)
    refine wp_append_any _ _ _ 28 (by rfl) w3.heap.size 3 i0 (.int .i64 0) 1 8 Try.underlying28 hi hz0' hz1' hz2' rfl (by decide) _ _ _ (by rfl) F0.out _ _ nw d1 (ints st.2) (by rfl) hrd (ints_one _) (by unfold maxLen; omega) (by omega) (by omega) ?_
    intro v7 D4 hown7 hgrow7 hblk7
    go_simp
    rw [Nat.zero_add, List.nil_append] at hown7
    obtain ⟨g2, c2', rfl⟩ : ∃ g c, v7 = .slice (some ⟨g, 0, none⟩) nw c := by
     rcases hown7.2 with ⟨rfl, _⟩ | ⟨g, cap, cur, rfl, _⟩
     ·exfalso
      rcases hblk7 with h1 | h1
      ·have h2 : (none : Option Nat) = some _ := h1
       cases h2
      ·have h2 : (none : Option Nat) = some _ := h1
       cases h2
     ·exact ⟨g, cap, rfl⟩
    have hg2 : g2 = g0 ∨ g2 = D3.heap.size := by
     rcases hblk7 with h1 | h1
     ·exact .inl (by injection h1)
     ·exact .inr (by injection h1)
    have zD4 : D3.heap.size ≤ D4.heap.size := hgrow7.size
    have hl2 := (hown7.lt g2 rfl).2
    have hkp : ∀ b, b < D3.heap.size → b ≠ g0 → D4.heap[b]? = D3.heap[b]? := fun b h1 h2 => hgrow7.block b h1 (fun e => h2 (by injection e))
    have HA := Lib.hid (HA.out.trans (below_of_grown hgrow7 (by omega) (fun g hg => by have hg : g0 = g := (by injection hg); omega)))
    (try have F1 := Lib.hid (own_keep F1.out (fun g hg => hkp g (by have := (F1.out.lt g hg).2; omega) (by have hg : g1 = g := (by injection hg); omega))))
    (try have F3 := Lib.hid (show Blk D4 gb 33 #[.slice none 0 0, .slice none 0 0] from (hkp gb F3.out.lt (by omega)).trans F3.out))
    have F2 := Lib.hid hown7
    refine hK _ _ (Cls.mk' HA.out) ?_
    clear hK K hown7 hgrow7 hblk7 hrd hkp
    clear cs0 cs1 cm0 cm1 cm2 cm3
    obtain ⟨q0, q1⟩ := blkS2 F3.out
    have f0 := F3.out.frozen 0
    have f1 := F3.out.frozen 1
    (repeat (first | (refine lex_r fun K hK => ?_; go_big_quiet_op; refine hK _ ?_; clear hK K) | (refine lex_k fun K hK => ?_; go_simp; refine hK _ ?_; clear hK K)))
    (refine lex_e fun K hK => ?_; go_big_op)
    obtain ⟨wx, hwx⟩ : ∃ x, x = ((D4.setCell ⟨gb, 0, none⟩ (.slice (some ⟨g1, 0, none⟩) ns ns)).setCell ⟨gb, 1, none⟩ (.slice (some ⟨g2, 0, none⟩) nw c2')) := ⟨_, rfl⟩
    rw [← hwx]
    have HA := Lib.hid (show Below w3.heap.size w3 wx by rw [hwx]; exact (HA.out.setCell (by show w3.heap.size ≤ gb; omega) _).setCell (by show w3.heap.size ≤ gb; omega) _)
    refine hK _ _ (Cls.mk' HA.out) ?_
    clear hK K q0 q1 f0 f1
    (repeat (first | (refine lex_r fun K hK => ?_; go_big_quiet_op; refine hK _ ?_; clear hK K) | (refine lex_k fun K hK => ?_; go_simp; refine hK _ ?_; clear hK K)))
    (refine lex_nil ?_)
    refine ⟨Cls.mk' HA.out, ?_⟩
    clear lexNE
    go_wp2_with fail
    go_meet
    case rel =>
     have hk2 : ∀ b, b ≠ gb → wx.heap[b]? = D4.heap[b]? := fun b hb => by
      rw [hwx]
      exact (Below.heap_setCell _ ⟨gb, 1, none⟩ _ b hb).trans (Below.heap_setCell _ ⟨gb, 0, none⟩ _ b hb)
     refine ⟨gb, g1, g2, c2', rfl, ?_, ?_, ?_, ⟨by omega, by omega, by omega⟩, ⟨by omega, by omega, by omega⟩, HA.out⟩
     ·exact own_keep F1.out (fun g hg => hk2 g (by have hg : g1 = g := (by injection hg); omega))
     ·exact own_keep F2.out (fun g hg => hk2 g (by have hg : g2 = g := (by injection hg); omega))
     ·rw [hwx]
      exact blk_two F3.out
   ·(repeat (first | (refine lex_r fun K hK => ?_; go_big_quiet_op; refine hK _ ?_; clear hK K) | (refine lex_k fun K hK => ?_; go_simp; refine hK _ ?_; clear hK K)))
    (refine lex_e fun K hK => ?_; go_big_op)
    obtain ⟨D1, hD1⟩ : ∃ x, x = D.alloc (.cells #[.slice none 0 0, .slice none 0 0] 33) := ⟨_, rfl⟩
    rw [← hD1]
    have bD1 : Below D.heap.size D D1 := by rw [hD1]; exact (Below.refl _ _).alloc (Nat.le_refl _) _
    have zD1 : D.heap.size + 1 ≤ D1.heap.size := by rw [hD1]; simp
    have HsD1 := Lib.hid bD1
    have HA := Lib.hid (HA.out.trans (bD1.mono (by omega)))
    (try have F0 := Lib.hid (own_below F0.out bD1 (Nat.le_refl _)))
    (try have F1 := Lib.hid (own_below F1.out bD1 (Nat.le_refl _)))
    (try have F2 := Lib.hid (own_below F2.out bD1 (Nat.le_refl _)))
    (try have F3 := Lib.hid (F3.out.below bD1 F3.out.lt))
    obtain ⟨gb, hgb⟩ : ∃ g, g = D.heap.size := ⟨_, rfl⟩
    have F3 := Lib.hid (show Blk D1 gb 33 #[.slice none 0 0, .slice none 0 0] by rw [hD1, hgb]; exact Blk.new _ _ _)
    rw [← hgb]
    have lgba : D.heap.size ≤ gb := by omega
    have lgbb : gb < D1.heap.size := by omega
    clear hgb
    refine hK _ _ (Cls.mk' HA.out) ?_
    clear hK K hD1 bD1
    (repeat (first | (refine lex_r fun K hK => ?_; go_big_quiet_op; refine hK _ ?_; clear hK K) | (refine lex_k fun K hK => ?_; go_simp; refine hK _ ?_; clear hK K)))
    (refine lex_e fun K hK => ?_; go_big_op)
    obtain ⟨D2, hD2⟩ : ∃ x, x = D1.alloc (.cells (madeCells #[.int .i64 0] ns) 3) := ⟨_, rfl⟩
    rw [← hD2]
    have bD2 : Below D1.heap.size D1 D2 := by rw [hD2]; exact (Below.refl _ _).alloc (Nat.le_refl _) _
    have zD2 : D1.heap.size + 1 ≤ D2.heap.size := by rw [hD2]; simp
    have HsD2 := Lib.hid bD2
    have HA := Lib.hid (HA.out.trans (bD2.mono (by omega)))
    (try have F0 := Lib.hid (own_below F0.out bD2 (Nat.le_refl _)))
    (try have F1 := Lib.hid (own_below F1.out bD2 (Nat.le_refl _)))
    (try have F2 := Lib.hid (own_below F2.out bD2 (Nat.le_refl _)))
    (try have F3 := Lib.hid (F3.out.below bD2 F3.out.lt))
    obtain ⟨g1, hg1⟩ : ∃ g, g = D1.heap.size := ⟨_, rfl⟩
    have F1 := Lib.hid (show D2.ownsRow w3.heap.size 3 1 (.slice (some ⟨g1, 0, none⟩) ns ns) ns (ints (List.replicate ns 0)) by rw [hD2, hg1]; exact own_made0 (by unfold maxLen; omega) (by omega))
    rw [← hg1]
    have lg1a : D1.heap.size ≤ g1 := by omega
    have lg1b : g1 < D2.heap.size := by omega
    clear hg1
    refine hK _ _ (Cls.mk' HA.out) ?_
    clear hK K hD2 bD2
    (repeat (first | (refine lex_r fun K hK => ?_; go_big_quiet_op; refine hK _ ?_; clear hK K) | (refine lex_k fun K hK => ?_; go_simp; refine hK _ ?_; clear hK K)))
    (refine lex_e fun K hK => ?_; go_big_op)
    obtain ⟨D3, hD3⟩ : ∃ x, x = D2.alloc (.cells #[] 3) := ⟨_, rfl⟩
    rw [← hD3]
    have bD3 : Below D2.heap.size D2 D3 := by rw [hD3]; exact (Below.refl _ _).alloc (Nat.le_refl _) _
    have zD3 : D2.heap.size + 1 ≤ D3.heap.size := by rw [hD3]; simp
    have HsD3 := Lib.hid bD3
    have HA := Lib.hid (HA.out.trans (bD3.mono (by omega)))
    (try have F0 := Lib.hid (own_below F0.out bD3 (Nat.le_refl _)))
    (try have F1 := Lib.hid (own_below F1.out bD3 (Nat.le_refl _)))
    (try have F2 := Lib.hid (own_below F2.out bD3 (Nat.le_refl _)))
    (try have F3 := Lib.hid (F3.out.below bD3 F3.out.lt))
    obtain ⟨g0, hg0⟩ : ∃ g, g = D2.heap.size := ⟨_, rfl⟩
    have F0 := Lib.hid (show D3.ownsRow w3.heap.size 3 1 (.slice (some ⟨g0, 0, none⟩) 0 0) 0 [] by rw [hD3, hg0]; exact own_up (World.ownsRow_made (base := D2.heap.size) (size := 1) (e := 3) D2 #[] 0 (Nat.le_refl _) (by unfold maxLen; omega) rfl) (fun g hg => by have hg : D2.heap.size = g := (by injection hg); omega))
    rw [← hg0]
    have lg0a : D2.heap.size ≤ g0 := by omega
    have lg0b : g0 < D3.heap.size := by omega
    clear hg0
    refine hK _ _ (Cls.mk' HA.out) ?_
    clear hK K hD3 bD3
    (repeat (first | (refine lex_r fun K hK => ?_; go_big_quiet_op; refine hK _ ?_; clear hK K) | (refine lex_k fun K hK => ?_; go_simp; refine hK _ ?_; clear hK K)))
    refine lex_e fun K hK => ?_
    have hrd := rep_reads (HV1.out.under hS2 (HB3.out.trans (HA.out.mono (by omega)))) (B := D3.heap.size) (fun b hb => by have := hS2 b hb; omega)
    refine wp_append_any _ _ _ 28 (by rfl) w3.heap.size 3 i0 (.int .i64 0) 1 8 Try.underlying28 hi hz0' hz1' hz2' rfl (by decide) _ _ _ (by rfl) F0.out _ _ nw d1 (ints st.2) (by rfl) hrd (ints_one _) (by unfold maxLen; omega) (by omega) (by omega) ?_
    intro v7 D4 hown7 hgrow7 hblk7
    go_simp
    rw [Nat.zero_add, List.nil_append] at hown7
    obtain ⟨g2, c2', rfl⟩ : ∃ g c, v7 = .slice (some ⟨g, 0, none⟩) nw c := by
     rcases hown7.2 with ⟨rfl, _⟩ | ⟨g, cap, cur, rfl, _⟩
     ·exfalso
      rcases hblk7 with h1 | h1
      ·have h2 : (none : Option Nat) = some _ := h1
       cases h2
      ·have h2 : (none : Option Nat) = some _ := h1
       cases h2
     ·exact ⟨g, cap, rfl⟩
    have hg2 : g2 = g0 ∨ g2 = D3.heap.size := by
     rcases hblk7 with h1 | h1
     ·exact .inl (by injection h1)
     ·exact .inr (by injection h1)
    have zD4 : D3.heap.size ≤ D4.heap.size := hgrow7.size
    have hl2 := (hown7.lt g2 rfl).2
    have hkp : ∀ b, b < D3.heap.size → b ≠ g0 → D4.heap[b]? = D3.heap[b]? := fun b h1 h2 => hgrow7.block b h1 (fun e => h2 (by injection e))
    have HA := Lib.hid (HA.out.trans (below_of_grown hgrow7 (by omega) (fun g hg => by have hg : g0 = g := (by injection hg); omega)))
    (try have F1 := Lib.hid (own_keep F1.out (fun g hg => hkp g (by have := (F1.out.lt g hg).2; omega) (by have hg : g1 = g := (by injection hg); omega))))
    (try have F3 := Lib.hid (show Blk D4 gb 33 #[.slice none 0 0, .slice none 0 0] from (hkp gb F3.out.lt (by omega)).trans F3.out))
    have F2 := Lib.hid hown7
    refine hK _ _ (Cls.mk' HA.out) ?_
    clear hK K hown7 hgrow7 hblk7 hrd hkp
    clear cs0 cs1 cm0 cm1 cm2 cm3
    obtain ⟨q0, q1⟩ := blkS2 F3.out
    have f0 := F3.out.frozen 0
    have f1 := F3.out.frozen 1
    (repeat (first | (refine lex_r fun K hK => ?_; go_big_quiet_op; refine hK _ ?_; clear hK K) | (refine lex_k fun K hK => ?_; go_simp; refine hK _ ?_; clear hK K)))
    (refine lex_e fun K hK => ?_; go_big_op)
    obtain ⟨wx, hwx⟩ : ∃ x, x = ((D4.setCell ⟨gb, 0, none⟩ (.slice (some ⟨g1, 0, none⟩) ns ns)).setCell ⟨gb, 1, none⟩ (.slice (some ⟨g2, 0, none⟩) nw c2')) := ⟨_, rfl⟩
    rw [← hwx]
    have HA := Lib.hid (show Below w3.heap.size w3 wx by rw [hwx]; exact (HA.out.setCell (by show w3.heap.size ≤ gb; omega) _).setCell (by show w3.heap.size ≤ gb; omega) _)
    refine hK _ _ (Cls.mk' HA.out) ?_
    clear hK K q0 q1 f0 f1
    (repeat (first | (refine lex_r fun K hK => ?_; go_big_quiet_op; refine hK _ ?_; clear hK K) | (refine lex_k fun K hK => ?_; go_simp; refine hK _ ?_; clear hK K)))
    (refine lex_nil ?_)
    refine ⟨Cls.mk' HA.out, ?_⟩
    clear lexNE
    go_wp2_with fail
    go_meet
    case rel =>
     have hk2 : ∀ b, b ≠ gb → wx.heap[b]? = D4.heap[b]? := fun b hb => by
      rw [hwx]
      exact (Below.heap_setCell _ ⟨gb, 1, none⟩ _ b hb).trans (Below.heap_setCell _ ⟨gb, 0, none⟩ _ b hb)
     refine ⟨gb, g1, g2, c2', rfl, ?_, ?_, ?_, ⟨by omega, by omega, by omega⟩, ⟨by omega, by omega, by omega⟩, HA.out⟩
     ·exact own_keep F1.out (fun g hg => hk2 g (by have hg : g1 = g := (by injection hg); omega))
     ·exact own_keep F2.out (fun g hg => hk2 g (by have hg : g2 = g := (by injection hg); omega))
     ·rw [hwx]
      exact blk_two F3.out
   ·(repeat (first | (refine lex_r fun K hK => ?_; go_big_quiet_op; refine hK _ ?_; clear hK K) | (refine lex_k fun K hK => ?_; go_simp; refine hK _ ?_; clear hK K)))
    (refine lex_e fun K hK => ?_; go_big_op)
    obtain ⟨D1, hD1⟩ : ∃ x, x = D.alloc (.cells #[] 3) := ⟨_, rfl⟩
    rw [← hD1]
    have bD1 : Below D.heap.size D D1 := by rw [hD1]; exact (Below.refl _ _).alloc (Nat.le_refl _) _
    have zD1 : D.heap.size + 1 ≤ D1.heap.size := by rw [hD1]; simp
    have HsD1 := Lib.hid bD1
    have HA := Lib.hid (HA.out.trans (bD1.mono (by omega)))
    (try have F0 := Lib.hid (own_below F0.out bD1 (Nat.le_refl _)))
    (try have F1 := Lib.hid (own_below F1.out bD1 (Nat.le_refl _)))
    (try have F2 := Lib.hid (own_below F2.out bD1 (Nat.le_refl _)))
    (try have F3 := Lib.hid (F3.out.below bD1 F3.out.lt))
    obtain ⟨g0, hg0⟩ : ∃ g, g = D.heap.size := ⟨_, rfl⟩
    have F0 := Lib.hid (show D1.ownsRow w3.heap.size 3 1 (.slice (some ⟨g0, 0, none⟩) 0 0) 0 [] by rw [hD1, hg0]; exact own_up (World.ownsRow_made (base := D.heap.size) (size := 1) (e := 3) D #[] 0 (Nat.le_refl _) (by unfold maxLen; omega) rfl) (fun g hg => by have hg : D.heap.size = g := (by injection hg); omega))
    rw [← hg0]
    have lg0a : D.heap.size ≤ g0 := by omega
    have lg0b : g0 < D1.heap.size := by omega
    clear hg0
    refine hK _ _ (Cls.mk' HA.out) ?_
    clear hK K hD1 bD1
    (repeat (first | (refine lex_r fun K hK => ?_; go_big_quiet_op; refine hK _ ?_; clear hK K) | (refine lex_k fun K hK => ?_; go_simp; refine hK _ ?_; clear hK K)))
    (refine lex_e fun K hK => ?_; go_big_op)
    obtain ⟨D2, hD2⟩ : ∃ x, x = D1.alloc (.cells (madeCells #[.int .i64 0] ns) 3) := ⟨_, rfl⟩
    rw [← hD2]
    have bD2 : Below D1.heap.size D1 D2 := by rw [hD2]; exact (Below.refl _ _).alloc (Nat.le_refl _) _
    have zD2 : D1.heap.size + 1 ≤ D2.heap.size := by rw [hD2]; simp
    have HsD2 := Lib.hid bD2
    have HA := Lib.hid (HA.out.trans (bD2.mono (by omega)))
    (try have F0 := Lib.hid (own_below F0.out bD2 (Nat.le_refl _)))
    (try have F1 := Lib.hid (own_below F1.out bD2 (Nat.le_refl _)))
    (try have F2 := Lib.hid (own_below F2.out bD2 (Nat.le_refl _)))
    (try have F3 := Lib.hid (F3.out.below bD2 F3.out.lt))
    obtain ⟨g1, hg1⟩ : ∃ g, g = D1.heap.size := ⟨_, rfl⟩
    have F1 := Lib.hid (show D2.ownsRow w3.heap.size 3 1 (.slice (some ⟨g1, 0, none⟩) ns ns) ns (ints (List.replicate ns 0)) by rw [hD2, hg1]; exact own_made0 (by unfold maxLen; omega) (by omega))
    rw [← hg1]
    have lg1a : D1.heap.size ≤ g1 := by omega
    have lg1b : g1 < D2.heap.size := by omega
    clear hg1
    refine hK _ _ (Cls.mk' HA.out) ?_
    clear hK K hD2 bD2
    (repeat (first | (refine lex_r fun K hK => ?_; go_big_quiet_op; refine hK _ ?_; clear hK K) | (refine lex_k fun K hK => ?_; go_simp; refine hK _ ?_; clear hK K)))
    refine lex_e fun K hK => ?_
    have hrd := rep_reads (HV1.out.under hS2 (HB3.out.trans (HA.out.mono (by omega)))) (B := D2.heap.size) (fun b hb => by have := hS2 b hb; omega)
    refine wp_append_any _ _ _ 28 (by rfl) w3.heap.size 3 i0 (.int .i64 0) 1 8 Try.underlying28 hi hz0' hz1' hz2' rfl (by decide) _ _ _ (by rfl) F0.out _ _ nw d1 (ints st.2) (by rfl) hrd (ints_one _) (by unfold maxLen; omega) (by omega) (by omega) ?_
    intro v7 D3 hown7 hgrow7 hblk7
    go_simp
    rw [Nat.zero_add, List.nil_append] at hown7
    obtain ⟨g2, c2', rfl⟩ : ∃ g c, v7 = .slice (some ⟨g, 0, none⟩) nw c := by
     rcases hown7.2 with ⟨rfl, _⟩ | ⟨g, cap, cur, rfl, _⟩
     ·exfalso
      rcases hblk7 with h1 | h1
      ·have h2 : (none : Option Nat) = some _ := h1
       cases h2
      ·have h2 : (none : Option Nat) = some _ := h1
       cases h2
     ·exact ⟨g, cap, rfl⟩
    have hg2 : g2 = g0 ∨ g2 = D2.heap.size := by
     rcases hblk7 with h1 | h1
     ·exact .inl (by injection h1)
     ·exact .inr (by injection h1)
    have zD3 : D2.heap.size ≤ D3.heap.size := hgrow7.size
    have hl2 := (hown7.lt g2 rfl).2
    have hkp : ∀ b, b < D2.heap.size → b ≠ g0 → D3.heap[b]? = D2.heap[b]? := fun b h1 h2 => hgrow7.block b h1 (fun e => h2 (by injection e))
    have HA := Lib.hid (HA.out.trans (below_of_grown hgrow7 (by omega) (fun g hg => by have hg : g0 = g := (by injection hg); omega)))
    (try have F1 := Lib.hid (own_keep F1.out (fun g hg => hkp g (by have := (F1.out.lt g hg).2; omega) (by have hg : g1 = g := (by injection hg); omega))))
    (try have F3 := Lib.hid (show Blk D3 gb 33 #[.slice none 0 0, .slice none 0 0] from (hkp gb F3.out.lt (by omega)).trans F3.out))
    have F2 := Lib.hid hown7
    refine hK _ _ (Cls.mk' HA.out) ?_
    clear hK K hown7 hgrow7 hblk7 hrd hkp
    (repeat (first | (refine lex_r fun K hK => ?_; go_big_quiet_op; refine hK _ ?_; clear hK K) | (refine lex_k fun K hK => ?_; go_simp; refine hK _ ?_; clear hK K)))
    (refine lex_e fun K hK => ?_; go_big_op)
    obtain ⟨D4, hD4⟩ : ∃ x, x = D3.alloc (.cells #[.slice none 0 0, .slice none 0 0] 33) := ⟨_, rfl⟩
    rw [← hD4]
    have bD4 : Below D3.heap.size D3 D4 := by rw [hD4]; exact (Below.refl _ _).alloc (Nat.le_refl _) _
    have zD4 : D3.heap.size + 1 ≤ D4.heap.size := by rw [hD4]; simp
    have HsD4 := Lib.hid bD4
    have HA := Lib.hid (HA.out.trans (bD4.mono (by omega)))
    (try have F0 := Lib.hid (own_below F0.out bD4 (Nat.le_refl _)))
    (try have F1 := Lib.hid (own_below F1.out bD4 (Nat.le_refl _)))
    (try have F2 := Lib.hid (own_below F2.out bD4 (Nat.le_refl _)))
    (try have F3 := Lib.hid (F3.out.below bD4 F3.out.lt))
    obtain ⟨gb, hgb⟩ : ∃ g, g = D3.heap.size := ⟨_, rfl⟩
    have F3 := Lib.hid (show Blk D4 gb 33 #[.slice none 0 0, .slice none 0 0] by rw [hD4, hgb]; exact Blk.new _ _ _)
    rw [← hgb]
    have lgba : D3.heap.size ≤ gb := by omega
    have lgbb : gb < D4.heap.size := by omega
    clear hgb
    refine hK _ _ (Cls.mk' HA.out) ?_
    clear hK K hD4 bD4
    clear cs0 cs1 cm0 cm1 cm2 cm3
    obtain ⟨q0, q1⟩ := blkS2 F3.out
    have f0 := F3.out.frozen 0
    have f1 := F3.out.frozen 1
    (repeat (first | (refine lex_r fun K hK => ?_; go_big_quiet_op; refine hK _ ?_; clear hK K) | (refine lex_k fun K hK => ?_; go_simp; refine hK _ ?_; clear hK K)))
    (refine lex_e fun K hK => ?_; go_big_op)
    obtain ⟨wx, hwx⟩ : ∃ x, x = ((D4.setCell ⟨gb, 0, none⟩ (.slice (some ⟨g1, 0, none⟩) ns ns)).setCell ⟨gb, 1, none⟩ (.slice (some ⟨g2, 0, none⟩) nw c2')) := ⟨_, rfl⟩
    rw [← hwx]
    have HA := Lib.hid (show Below w3.heap.size w3 wx by rw [hwx]; exact (HA.out.setCell (by show w3.heap.size ≤ gb; omega) _).setCell (by show w3.heap.size ≤ gb; omega) _)
    refine hK _ _ (Cls.mk' HA.out) ?_
    clear hK K q0 q1 f0 f1
    (repeat (first | (refine lex_r fun K hK => ?_; go_big_quiet_op; refine hK _ ?_; clear hK K) | (refine lex_k fun K hK => ?_; go_simp; refine hK _ ?_; clear hK K)))
    (refine lex_nil ?_)
    refine ⟨Cls.mk' HA.out, ?_⟩
    clear lexNE
    go_wp2_with fail
    go_meet
    case rel =>
     have hk2 : ∀ b, b ≠ gb → wx.heap[b]? = D4.heap[b]? := fun b hb => by
      rw [hwx]
      exact (Below.heap_setCell _ ⟨gb, 1, none⟩ _ b hb).trans (Below.heap_setCell _ ⟨gb, 0, none⟩ _ b hb)
     refine ⟨gb, g1, g2, c2', rfl, ?_, ?_, ?_, ⟨by omega, by omega, by omega⟩, ⟨by omega, by omega, by omega⟩, HA.out⟩
     ·exact own_keep F1.out (fun g hg => hk2 g (by have hg : g1 = g := (by injection hg); omega))
     ·exact own_keep F2.out (fun g hg => hk2 g (by have hg : g2 = g := (by injection hg); omega))
     ·rw [hwx]
      exact blk_two F3.out
   ·(repeat (first | (refine lex_r fun K hK => ?_; go_big_quiet_op; refine hK _ ?_; clear hK K) | (refine lex_k fun K hK => ?_; go_simp; refine hK _ ?_; clear hK K)))
    (refine lex_e fun K hK => ?_; go_big_op)
    obtain ⟨D1, hD1⟩ : ∃ x, x = D.alloc (.cells #[] 3) := ⟨_, rfl⟩
    rw [← hD1]
    have bD1 : Below D.heap.size D D1 := by rw [hD1]; exact (Below.refl _ _).alloc (Nat.le_refl _) _
    have zD1 : D.heap.size + 1 ≤ D1.heap.size := by rw [hD1]; simp
    have HsD1 := Lib.hid bD1
    have HA := Lib.hid (HA.out.trans (bD1.mono (by omega)))
    (try have F0 := Lib.hid (own_below F0.out bD1 (Nat.le_refl _)))
    (try have F1 := Lib.hid (own_below F1.out bD1 (Nat.le_refl _)))
    (try have F2 := Lib.hid (own_below F2.out bD1 (Nat.le_refl _)))
    (try have F3 := Lib.hid (F3.out.below bD1 F3.out.lt))
    obtain ⟨g0, hg0⟩ : ∃ g, g = D.heap.size := ⟨_, rfl⟩
    have F0 := Lib.hid (show D1.ownsRow w3.heap.size 3 1 (.slice (some ⟨g0, 0, none⟩) 0 0) 0 [] by rw [hD1, hg0]; exact own_up (World.ownsRow_made (base := D.heap.size) (size := 1) (e := 3) D #[] 0 (Nat.le_refl _) (by unfold maxLen; omega) rfl) (fun g hg => by have hg : D.heap.size = g := (by injection hg); omega))
    rw [← hg0]
    have lg0a : D.heap.size ≤ g0 := by omega
    have lg0b : g0 < D1.heap.size := by omega
    clear hg0
    refine hK _ _ (Cls.mk' HA.out) ?_
    clear hK K hD1 bD1
    (repeat (first | (refine lex_r fun K hK => ?_; go_big_quiet_op; refine hK _ ?_; clear hK K) | (refine lex_k fun K hK => ?_; go_simp; refine hK _ ?_; clear hK K)))
    (refine lex_e fun K hK => ?_; go_big_op)
    obtain ⟨D2, hD2⟩ : ∃ x, x = D1.alloc (.cells (madeCells #[.int .i64 0] ns) 3) := ⟨_, rfl⟩
    rw [← hD2]
    have bD2 : Below D1.heap.size D1 D2 := by rw [hD2]; exact (Below.refl _ _).alloc (Nat.le_refl _) _
    have zD2 : D1.heap.size + 1 ≤ D2.heap.size := by rw [hD2]; simp
    have HsD2 := Lib.hid bD2
    have HA := Lib.hid (HA.out.trans (bD2.mono (by omega)))
    (try have F0 := Lib.hid (own_below F0.out bD2 (Nat.le_refl _)))
    (try have F1 := Lib.hid (own_below F1.out bD2 (Nat.le_refl _)))
    (try have F2 := Lib.hid (own_below F2.out bD2 (Nat.le_refl _)))
    (try have F3 := Lib.hid (F3.out.below bD2 F3.out.lt))
    obtain ⟨g1, hg1⟩ : ∃ g, g = D1.heap.size := ⟨_, rfl⟩
    have F1 := Lib.hid (show D2.ownsRow w3.heap.size 3 1 (.slice (some ⟨g1, 0, none⟩) ns ns) ns (ints (List.replicate ns 0)) by rw [hD2, hg1]; exact own_made0 (by unfold maxLen; omega) (by omega))
    rw [← hg1]
    have lg1a : D1.heap.size ≤ g1 := by omega
    have lg1b : g1 < D2.heap.size := by omega
    clear hg1
    refine hK _ _ (Cls.mk' HA.out) ?_
    clear hK K hD2 bD2
    (repeat (first | (refine lex_r fun K hK => ?_; go_big_quiet_op; refine hK _ ?_; clear hK K) | (refine lex_k fun K hK => ?_; go_simp; refine hK _ ?_; clear hK K)))
    (refine lex_e fun K hK => ?_; go_big_op)
    obtain ⟨D3, hD3⟩ : ∃ x, x = D2.alloc (.cells #[.slice none 0 0, .slice none 0 0] 33) := ⟨_, rfl⟩
    rw [← hD3]
    have bD3 : Below D2.heap.size D2 D3 := by rw [hD3]; exact (Below.refl _ _).alloc (Nat.le_refl _) _
    have zD3 : D2.heap.size + 1 ≤ D3.heap.size := by rw [hD3]; simp
    have HsD3 := Lib.hid bD3
    have HA := Lib.hid (HA.out.trans (bD3.mono (by omega)))
    (try have F0 := Lib.hid (own_below F0.out bD3 (Nat.le_refl _)))
    (try have F1 := Lib.hid (own_below F1.out bD3 (Nat.le_refl _)))
    (try have F2 := Lib.hid (own_below F2.out bD3 (Nat.le_refl _)))
    (try have F3 := Lib.hid (F3.out.below bD3 F3.out.lt))
    obtain ⟨gb, hgb⟩ : ∃ g, g = D2.heap.size := ⟨_, rfl⟩
    have F3 := Lib.hid (show Blk D3 gb 33 #[.slice none 0 0, .slice none 0 0] by rw [hD3, hgb]; exact Blk.new _ _ _)
    rw [← hgb]
    have lgba : D2.heap.size ≤ gb := by omega
    have lgbb : gb < D3.heap.size := by omega
    clear hgb
    refine hK _ _ (Cls.mk' HA.out) ?_
    clear hK K hD3 bD3
    (repeat (first | (refine lex_r fun K hK => ?_; go_big_quiet_op; refine hK _ ?_; clear hK K) | (refine lex_k fun K hK => ?_; go_simp; refine hK _ ?_; clear hK K)))
    refine lex_e fun K hK => ?_
    have hrd := rep_reads (HV1.out.under hS2 (HB3.out.trans (HA.out.mono (by omega)))) (B := D3.heap.size) (fun b hb => by have := hS2 b hb; omega)
    refine wp_append_any _ _ _ 28 (by rfl) w3.heap.size 3 i0 (.int .i64 0) 1 8 Try.underlying28 hi hz0' hz1' hz2' rfl (by decide) _ _ _ (by rfl) F0.out _ _ nw d1 (ints st.2) (by rfl) hrd (ints_one _) (by unfold maxLen; omega) (by omega) (by omega) ?_
    intro v7 D4 hown7 hgrow7 hblk7
    go_simp
    rw [Nat.zero_add, List.nil_append] at hown7
    obtain ⟨g2, c2', rfl⟩ : ∃ g c, v7 = .slice (some ⟨g, 0, none⟩) nw c := by
     rcases hown7.2 with ⟨rfl, _⟩ | ⟨g, cap, cur, rfl, _⟩
     ·exfalso
      rcases hblk7 with h1 | h1
      ·have h2 : (none : Option Nat) = some _ := h1
       cases h2
      ·have h2 : (none : Option Nat) = some _ := h1
       cases h2
     ·exact ⟨g, cap, rfl⟩
    have hg2 : g2 = g0 ∨ g2 = D3.heap.size := by
     rcases hblk7 with h1 | h1
     ·exact .inl (by injection h1)
     ·exact .inr (by injection h1)
    have zD4 : D3.heap.size ≤ D4.heap.size := hgrow7.size
    have hl2 := (hown7.lt g2 rfl).2
    have hkp : ∀ b, b < D3.heap.size → b ≠ g0 → D4.heap[b]? = D3.heap[b]? := fun b h1 h2 => hgrow7.block b h1 (fun e => h2 (by injection e))
    have HA := Lib.hid (HA.out.trans (below_of_grown hgrow7 (by omega) (fun g hg => by have hg : g0 = g := (by injection hg); omega)))
    (try have F1 := Lib.hid (own_keep F1.out (fun g hg => hkp g (by have := (F1.out.lt g hg).2; omega) (by have hg : g1 = g := (by injection hg); omega))))
    (try have F3 := Lib.hid (show Blk D4 gb 33 #[.slice none 0 0, .slice none 0 0] from (hkp gb F3.out.lt (by omega)).trans F3.out))
    have F2 := Lib.hid hown7
    refine hK _ _ (Cls.mk' HA.out) ?_
    clear hK K hown7 hgrow7 hblk7 hrd hkp
    clear cs0 cs1 cm0 cm1 cm2 cm3
    obtain ⟨q0, q1⟩ := blkS2 F3.out
    have f0 := F3.out.frozen 0
    have f1 := F3.out.frozen 1
    (repeat (first | (refine lex_r fun K hK => ?_; go_big_quiet_op; refine hK _ ?_; clear hK K) | (refine lex_k fun K hK => ?_; go_simp; refine hK _ ?_; clear hK K)))
    (refine lex_e fun K hK => ?_; go_big_op)
    obtain ⟨wx, hwx⟩ : ∃ x, x = ((D4.setCell ⟨gb, 0, none⟩ (.slice (some ⟨g1, 0, none⟩) ns ns)).setCell ⟨gb, 1, none⟩ (.slice (some ⟨g2, 0, none⟩) nw c2')) := ⟨_, rfl⟩
    rw [← hwx]
    have HA := Lib.hid (show Below w3.heap.size w3 wx by rw [hwx]; exact (HA.out.setCell (by show w3.heap.size ≤ gb; omega) _).setCell (by show w3.heap.size ≤ gb; omega) _)
    refine hK _ _ (Cls.mk' HA.out) ?_
    clear hK K q0 q1 f0 f1
    (repeat (first | (refine lex_r fun K hK => ?_; go_big_quiet_op; refine hK _ ?_; clear hK K) | (refine lex_k fun K hK => ?_; go_simp; refine hK _ ?_; clear hK K)))
    (refine lex_nil ?_)
    refine ⟨Cls.mk' HA.out, ?_⟩
    clear lexNE
    go_wp2_with fail
    go_meet
    case rel =>
     have hk2 : ∀ b, b ≠ gb → wx.heap[b]? = D4.heap[b]? := fun b hb => by
      rw [hwx]
      exact (Below.heap_setCell _ ⟨gb, 1, none⟩ _ b hb).trans (Below.heap_setCell _ ⟨gb, 0, none⟩ _ b hb)
     refine ⟨gb, g1, g2, c2', rfl, ?_, ?_, ?_, ⟨by omega, by omega, by omega⟩, ⟨by omega, by omega, by omega⟩, HA.out⟩
     ·exact own_keep F1.out (fun g hg => hk2 g (by have hg : g1 = g := (by injection hg); omega))
     ·exact own_keep F2.out (fun g hg => hk2 g (by have hg : g2 = g := (by injection hg); omega))
     ·rw [hwx]
      exact blk_two F3.out
   ·(repeat (first | (refine lex_r fun K hK => ?_; go_big_quiet_op; refine hK _ ?_; clear hK K) | (refine lex_k fun K hK => ?_; go_simp; refine hK _ ?_; clear hK K)))
    (refine lex_e fun K hK => ?_; go_big_op)
    obtain ⟨D1, hD1⟩ : ∃ x, x = D.alloc (.cells #[] 3) := ⟨_, rfl⟩
    rw [← hD1]
    have bD1 : Below D.heap.size D D1 := by rw [hD1]; exact (Below.refl _ _).alloc (Nat.le_refl _) _
    have zD1 : D.heap.size + 1 ≤ D1.heap.size := by rw [hD1]; simp
    have HsD1 := Lib.hid bD1
    have HA := Lib.hid (HA.out.trans (bD1.mono (by omega)))
    (try have F0 := Lib.hid (own_below F0.out bD1 (Nat.le_refl _)))
    (try have F1 := Lib.hid (own_below F1.out bD1 (Nat.le_refl _)))
    (try have F2 := Lib.hid (own_below F2.out bD1 (Nat.le_refl _)))
    (try have F3 := Lib.hid (F3.out.below bD1 F3.out.lt))
    obtain ⟨g0, hg0⟩ : ∃ g, g = D.heap.size := ⟨_, rfl⟩
    have F0 := Lib.hid (show D1.ownsRow w3.heap.size 3 1 (.slice (some ⟨g0, 0, none⟩) 0 0) 0 [] by rw [hD1, hg0]; exact own_up (World.ownsRow_made (base := D.heap.size) (size := 1) (e := 3) D #[] 0 (Nat.le_refl _) (by unfold maxLen; omega) rfl) (fun g hg => by have hg : D.heap.size = g := (by injection hg); omega))
    rw [← hg0]
    have lg0a : D.heap.size ≤ g0 := by omega
    have lg0b : g0 < D1.heap.size := by omega
    clear hg0
    refine hK _ _ (Cls.mk' HA.out) ?_
    clear hK K hD1 bD1
    (repeat (first | (refine lex_r fun K hK => ?_; go_big_quiet_op; refine hK _ ?_; clear hK K) | (refine lex_k fun K hK => ?_; go_simp; refine hK _ ?_; clear hK K)))
    (refine lex_e fun K hK => ?_; go_big_op)
    obtain ⟨D2, hD2⟩ : ∃ x, x = D1.alloc (.cells #[.slice none 0 0, .slice none 0 0] 33) := ⟨_, rfl⟩
    rw [← hD2]
    have bD2 : Below D1.heap.size D1 D2 := by rw [hD2]; exact (Below.refl _ _).alloc (Nat.le_refl _) _
    have zD2 : D1.heap.size + 1 ≤ D2.heap.size := by rw [hD2]; simp
    have HsD2 := Lib.hid bD2
    have HA := Lib.hid (HA.out.trans (bD2.mono (by omega)))
    (try have F0 := Lib.hid (own_below F0.out bD2 (Nat.le_refl _)))
    (try have F1 := Lib.hid (own_below F1.out bD2 (Nat.le_refl _)))
    (try have F2 := Lib.hid (own_below F2.out bD2 (Nat.le_refl _)))
    (try have F3 := Lib.hid (F3.out.below bD2 F3.out.lt))
    obtain ⟨gb, hgb⟩ : ∃ g, g = D1.heap.size := ⟨_, rfl⟩
    have F3 := Lib.hid (show Blk D2 gb 33 #[.slice none 0 0, .slice none 0 0] by rw [hD2, hgb]; exact Blk.new _ _ _)
    rw [← hgb]
    have lgba : D1.heap.size ≤ gb := by omega
    have lgbb : gb < D2.heap.size := by omega
    clear hgb
    refine hK _ _ (Cls.mk' HA.out) ?_
    clear hK K hD2 bD2
    (repeat (first | (refine lex_r fun K hK => ?_; go_big_quiet_op; refine hK _ ?_; clear hK K) | (refine lex_k fun K hK => ?_; go_simp; refine hK _ ?_; clear hK K)))
    (refine lex_e fun K hK => ?_; go_big_op)
    obtain ⟨D3, hD3⟩ : ∃ x, x = D2.alloc (.cells (madeCells #[.int .i64 0] ns) 3) := ⟨_, rfl⟩
    rw [← hD3]
    have bD3 : Below D2.heap.size D2 D3 := by rw [hD3]; exact (Below.refl _ _).alloc (Nat.le_refl _) _
    have zD3 : D2.heap.size + 1 ≤ D3.heap.size := by rw [hD3]; simp
    have HsD3 := Lib.hid bD3
    have HA := Lib.hid (HA.out.trans (bD3.mono (by omega)))
    (try have F0 := Lib.hid (own_below F0.out bD3 (Nat.le_refl _)))
    (try have F1 := Lib.hid (own_below F1.out bD3 (Nat.le_refl _)))
    (try have F2 := Lib.hid (own_below F2.out bD3 (Nat.le_refl _)))
    (try have F3 := Lib.hid (F3.out.below bD3 F3.out.lt))
    obtain ⟨g1, hg1⟩ : ∃ g, g = D2.heap.size := ⟨_, rfl⟩
    have F1 := Lib.hid (show D3.ownsRow w3.heap.size 3 1 (.slice (some ⟨g1, 0, none⟩) ns ns) ns (ints (List.replicate ns 0)) by rw [hD3, hg1]; exact own_made0 (by unfold maxLen; omega) (by omega))
    rw [← hg1]
    have lg1a : D2.heap.size ≤ g1 := by omega
    have lg1b : g1 < D3.heap.size := by omega
    clear hg1
    refine hK _ _ (Cls.mk' HA.out) ?_
    clear hK K hD3 bD3
    (repeat (first | (refine lex_r fun K hK => ?_; go_big_quiet_op; refine hK _ ?_; clear hK K) | (refine lex_k fun K hK => ?_; go_simp; refine hK _ ?_; clear hK K)))
    refine lex_e fun K hK => ?_
    have hrd := rep_reads (HV1.out.under hS2 (HB3.out.trans (HA.out.mono (by omega)))) (B := D3.heap.size) (fun b hb => by have := hS2 b hb; omega)
    refine wp_append_any _ _ _ 28 (by rfl) w3.heap.size 3 i0 (.int .i64 0) 1 8 Try.underlying28 hi hz0' hz1' hz2' rfl (by decide) _ _ _ (by rfl) F0.out _ _ nw d1 (ints st.2) (by rfl) hrd (ints_one _) (by unfold maxLen; omega) (by omega) (by omega) ?_
    intro v7 D4 hown7 hgrow7 hblk7
    go_simp
    rw [Nat.zero_add, List.nil_append] at hown7
    obtain ⟨g2, c2', rfl⟩ : ∃ g c, v7 = .slice (some ⟨g, 0, none⟩) nw c := by
     rcases hown7.2 with ⟨rfl, _⟩ | ⟨g, cap, cur, rfl, _⟩
     ·exfalso
      rcases hblk7 with h1 | h1
      ·have h2 : (none : Option Nat) = some _ := h1
       cases h2
      ·have h2 : (none : Option Nat) = some _ := h1
       cases h2
     ·exact ⟨g, cap, rfl⟩
    have hg2 : g2 = g0 ∨ g2 = D3.heap.size := by
     rcases hblk7 with h1 | h1
     ·exact .inl (by injection h1)
     ·exact .inr (by injection h1)
    have zD4 : D3.heap.size ≤ D4.heap.size := hgrow7.size
    have hl2 := (hown7.lt g2 rfl).2
    have hkp : ∀ b, b < D3.heap.size → b ≠ g0 → D4.heap[b]? = D3.heap[b]? := fun b h1 h2 => hgrow7.block b h1 (fun e => h2 (by injection e))
    have HA := Lib.hid (HA.out.trans (below_of_grown hgrow7 (by omega) (fun g hg => by have hg : g0 = g := (by injection hg); omega)))
    (try have F1 := Lib.hid (own_keep F1.out (fun g hg => hkp g (by have := (F1.out.lt g hg).2; omega) (by have hg : g1 = g := (by injection hg); omega))))
    (try have F3 := Lib.hid (show Blk D4 gb 33 #[.slice none 0 0, .slice none 0 0] from (hkp gb F3.out.lt (by omega)).trans F3.out))
    have F2 := Lib.hid hown7
    refine hK _ _ (Cls.mk' HA.out) ?_
    clear hK K hown7 hgrow7 hblk7 hrd hkp
    clear cs0 cs1 cm0 cm1 cm2 cm3
    obtain ⟨q0, q1⟩ := blkS2 F3.out
    have f0 := F3.out.frozen 0
    have f1 := F3.out.frozen 1
    (repeat (first | (refine lex_r fun K hK => ?_; go_big_quiet_op; refine hK _ ?_; clear hK K) | (refine lex_k fun K hK => ?_; go_simp; refine hK _ ?_; clear hK K)))
    (refine lex_e fun K hK => ?_; go_big_op)
    obtain ⟨wx, hwx⟩ : ∃ x, x = ((D4.setCell ⟨gb, 0, none⟩ (.slice (some ⟨g1, 0, none⟩) ns ns)).setCell ⟨gb, 1, none⟩ (.slice (some ⟨g2, 0, none⟩) nw c2')) := ⟨_, rfl⟩
    rw [← hwx]
    have HA := Lib.hid (show Below w3.heap.size w3 wx by rw [hwx]; exact (HA.out.setCell (by show w3.heap.size ≤ gb; omega) _).setCell (by show w3.heap.size ≤ gb; omega) _)
    refine hK _ _ (Cls.mk' HA.out) ?_
    clear hK K q0 q1 f0 f1
    (repeat (first | (refine lex_r fun K hK => ?_; go_big_quiet_op; refine hK _ ?_; clear hK K) | (refine lex_k fun K hK => ?_; go_simp; refine hK _ ?_; clear hK K)))
    (refine lex_nil ?_)
    refine ⟨Cls.mk' HA.out, ?_⟩
    clear lexNE
    go_wp2_with fail
    go_meet
    case rel =>
     have hk2 : ∀ b, b ≠ gb → wx.heap[b]? = D4.heap[b]? := fun b hb => by
      rw [hwx]
      exact (Below.heap_setCell _ ⟨gb, 1, none⟩ _ b hb).trans (Below.heap_setCell _ ⟨gb, 0, none⟩ _ b hb)
     refine ⟨gb, g1, g2, c2', rfl, ?_, ?_, ?_, ⟨by omega, by omega, by omega⟩, ⟨by omega, by omega, by omega⟩, HA.out⟩
     ·exact own_keep F1.out (fun g hg => hk2 g (by have hg : g1 = g := (by injection hg); omega))
     ·exact own_keep F2.out (fun g hg => hk2 g (by have hg : g2 = g := (by injection hg); omega))
     ·rw [hwx]
      exact blk_two F3.out
   ·(repeat (first | (refine lex_r fun K hK => ?_; go_big_quiet_op; refine hK _ ?_; clear hK K) | (refine lex_k fun K hK => ?_; go_simp; refine hK _ ?_; clear hK K)))
    (refine lex_e fun K hK => ?_; go_big_op)
    obtain ⟨D1, hD1⟩ : ∃ x, x = D.alloc (.cells #[.slice none 0 0, .slice none 0 0] 33) := ⟨_, rfl⟩
    rw [← hD1]
    have bD1 : Below D.heap.size D D1 := by rw [hD1]; exact (Below.refl _ _).alloc (Nat.le_refl _) _
    have zD1 : D.heap.size + 1 ≤ D1.heap.size := by rw [hD1]; simp
    have HsD1 := Lib.hid bD1
    have HA := Lib.hid (HA.out.trans (bD1.mono (by omega)))
    (try have F0 := Lib.hid (own_below F0.out bD1 (Nat.le_refl _)))
    (try have F1 := Lib.hid (own_below F1.out bD1 (Nat.le_refl _)))
    (try have F2 := Lib.hid (own_below F2.out bD1 (Nat.le_refl _)))
    (try have F3 := Lib.hid (F3.out.below bD1 F3.out.lt))
    obtain ⟨gb, hgb⟩ : ∃ g, g = D.heap.size := ⟨_, rfl⟩
    have F3 := Lib.hid (show Blk D1 gb 33 #[.slice none 0 0, .slice none 0 0] by rw [hD1, hgb]; exact Blk.new _ _ _)
    rw [← hgb]
    have lgba : D.heap.size ≤ gb := by omega
    have lgbb : gb < D1.heap.size := by omega
    clear hgb
    refine hK _ _ (Cls.mk' HA.out) ?_
    clear hK K hD1 bD1
    (repeat (first | (refine lex_r fun K hK => ?_; go_big_quiet_op; refine hK _ ?_; clear hK K) | (refine lex_k fun K hK => ?_; go_simp; refine hK _ ?_; clear hK K)))
    (refine lex_e fun K hK => ?_; go_big_op)
    obtain ⟨D2, hD2⟩ : ∃ x, x = D1.alloc (.cells #[] 3) := ⟨_, rfl⟩
    rw [← hD2]
    have bD2 : Below D1.heap.size D1 D2 := by rw [hD2]; exact (Below.refl _ _).alloc (Nat.le_refl _) _
    have zD2 : D1.heap.size + 1 ≤ D2.heap.size := by rw [hD2]; simp
    have HsD2 := Lib.hid bD2
    have HA := Lib.hid (HA.out.trans (bD2.mono (by omega)))
    (try have F0 := Lib.hid (own_below F0.out bD2 (Nat.le_refl _)))
    (try have F1 := Lib.hid (own_below F1.out bD2 (Nat.le_refl _)))
    (try have F2 := Lib.hid (own_below F2.out bD2 (Nat.le_refl _)))
    (try have F3 := Lib.hid (F3.out.below bD2 F3.out.lt))
    obtain ⟨g0, hg0⟩ : ∃ g, g = D1.heap.size := ⟨_, rfl⟩
    have F0 := Lib.hid (show D2.ownsRow w3.heap.size 3 1 (.slice (some ⟨g0, 0, none⟩) 0 0) 0 [] by rw [hD2, hg0]; exact own_up (World.ownsRow_made (base := D1.heap.size) (size := 1) (e := 3) D1 #[] 0 (Nat.le_refl _) (by unfold maxLen; omega) rfl) (fun g hg => by have hg : D1.heap.size = g := (by injection hg); omega))
    rw [← hg0]
    have lg0a : D1.heap.size ≤ g0 := by omega
    have lg0b : g0 < D2.heap.size := by omega
    clear hg0
    refine hK _ _ (Cls.mk' HA.out) ?_
    clear hK K hD2 bD2
    (repeat (first | (refine lex_r fun K hK => ?_; go_big_quiet_op; refine hK _ ?_; clear hK K) | (refine lex_k fun K hK => ?_; go_simp; refine hK _ ?_; clear hK K)))
    (refine lex_e fun K hK => ?_; go_big_op)
    obtain ⟨D3, hD3⟩ : ∃ x, x = D2.alloc (.cells (madeCells #[.int .i64 0] ns) 3) := ⟨_, rfl⟩
    rw [← hD3]
    have bD3 : Below D2.heap.size D2 D3 := by rw [hD3]; exact (Below.refl _ _).alloc (Nat.le_refl _) _
    have zD3 : D2.heap.size + 1 ≤ D3.heap.size := by rw [hD3]; simp
    have HsD3 := Lib.hid bD3
    have HA := Lib.hid (HA.out.trans (bD3.mono (by omega)))
    (try have F0 := Lib.hid (own_below F0.out bD3 (Nat.le_refl _)))
    (try have F1 := Lib.hid (own_below F1.out bD3 (Nat.le_refl _)))
    (try have F2 := Lib.hid (own_below F2.out bD3 (Nat.le_refl _)))
    (try have F3 := Lib.hid (F3.out.below bD3 F3.out.lt))
    obtain ⟨g1, hg1⟩ : ∃ g, g = D2.heap.size := ⟨_, rfl⟩
    have F1 := Lib.hid (show D3.ownsRow w3.heap.size 3 1 (.slice (some ⟨g1, 0, none⟩) ns ns) ns (ints (List.replicate ns 0)) by rw [hD3, hg1]; exact own_made0 (by unfold maxLen; omega) (by omega))
    rw [← hg1]
    have lg1a : D2.heap.size ≤ g1 := by omega
    have lg1b : g1 < D3.heap.size := by omega
    clear hg1
    refine hK _ _ (Cls.mk' HA.out) ?_
    clear hK K hD3 bD3
    (repeat (first | (refine lex_r fun K hK => ?_; go_big_quiet_op; refine hK _ ?_; clear hK K) | (refine lex_k fun K hK => ?_; go_simp; refine hK _ ?_; clear hK K)))
    refine lex_e fun K hK => ?_
    have hrd := rep_reads (HV1.out.under hS2 (HB3.out.trans (HA.out.mono (by omega)))) (B := D3.heap.size) (fun b hb => by have := hS2 b hb; omega)
    refine wp_append_any _ _ _ 28 (by rfl) w3.heap.size 3 i0 (.int .i64 0) 1 8 Try.underlying28 hi hz0' hz1' hz2' rfl (by decide) _ _ _ (by rfl) F0.out _ _ nw d1 (ints st.2) (by rfl) hrd (ints_one _) (by unfold maxLen; omega) (by omega) (by omega) ?_
    intro v7 D4 hown7 hgrow7 hblk7
    go_simp
    rw [Nat.zero_add, List.nil_append] at hown7
    obtain ⟨g2, c2', rfl⟩ : ∃ g c, v7 = .slice (some ⟨g, 0, none⟩) nw c := by
     rcases hown7.2 with ⟨rfl, _⟩ | ⟨g, cap, cur, rfl, _⟩
     ·exfalso
      rcases hblk7 with h1 | h1
      ·have h2 : (none : Option Nat) = some _ := h1
       cases h2
      ·have h2 : (none : Option Nat) = some _ := h1
       cases h2
     ·exact ⟨g, cap, rfl⟩
    have hg2 : g2 = g0 ∨ g2 = D3.heap.size := by
     rcases hblk7 with h1 | h1
     ·exact .inl (by injection h1)
     ·exact .inr (by injection h1)
    have zD4 : D3.heap.size ≤ D4.heap.size := hgrow7.size
    have hl2 := (hown7.lt g2 rfl).2
    have hkp : ∀ b, b < D3.heap.size → b ≠ g0 → D4.heap[b]? = D3.heap[b]? := fun b h1 h2 => hgrow7.block b h1 (fun e => h2 (by injection e))
    have HA := Lib.hid (HA.out.trans (below_of_grown hgrow7 (by omega) (fun g hg => by have hg : g0 = g := (by injection hg); omega)))
    (try have F1 := Lib.hid (own_keep F1.out (fun g hg => hkp g (by have := (F1.out.lt g hg).2; omega) (by have hg : g1 = g := (by injection hg); omega))))
    (try have F3 := Lib.hid (show Blk D4 gb 33 #[.slice none 0 0, .slice none 0 0] from (hkp gb F3.out.lt (by omega)).trans F3.out))
    have F2 := Lib.hid hown7
    refine hK _ _ (Cls.mk' HA.out) ?_
    clear hK K hown7 hgrow7 hblk7 hrd hkp
    clear cs0 cs1 cm0 cm1 cm2 cm3
    obtain ⟨q0, q1⟩ := blkS2 F3.out
    have f0 := F3.out.frozen 0
    have f1 := F3.out.frozen 1
    (repeat (first | (refine lex_r fun K hK => ?_; go_big_quiet_op; refine hK _ ?_; clear hK K) | (refine lex_k fun K hK => ?_; go_simp; refine hK _ ?_; clear hK K)))
    (refine lex_e fun K hK => ?_; go_big_op)
    obtain ⟨wx, hwx⟩ : ∃ x, x = ((D4.setCell ⟨gb, 0, none⟩ (.slice (some ⟨g1, 0, none⟩) ns ns)).setCell ⟨gb, 1, none⟩ (.slice (some ⟨g2, 0, none⟩) nw c2')) := ⟨_, rfl⟩
    rw [← hwx]
    have HA := Lib.hid (show Below w3.heap.size w3 wx by rw [hwx]; exact (HA.out.setCell (by show w3.heap.size ≤ gb; omega) _).setCell (by show w3.heap.size ≤ gb; omega) _)
    refine hK _ _ (Cls.mk' HA.out) ?_
    clear hK K q0 q1 f0 f1
    (repeat (first | (refine lex_r fun K hK => ?_; go_big_quiet_op; refine hK _ ?_; clear hK K) | (refine lex_k fun K hK => ?_; go_simp; refine hK _ ?_; clear hK K)))
    (refine lex_nil ?_)
    refine ⟨Cls.mk' HA.out, ?_⟩
    clear lexNE
    go_wp2_with fail
    go_meet
    case rel =>
     have hk2 : ∀ b, b ≠ gb → wx.heap[b]? = D4.heap[b]? := fun b hb => by
      rw [hwx]
      exact (Below.heap_setCell _ ⟨gb, 1, none⟩ _ b hb).trans (Below.heap_setCell _ ⟨gb, 0, none⟩ _ b hb)
     refine ⟨gb, g1, g2, c2', rfl, ?_, ?_, ?_, ⟨by omega, by omega, by omega⟩, ⟨by omega, by omega, by omega⟩, HA.out⟩
     ·exact own_keep F1.out (fun g hg => hk2 g (by have hg : g1 = g := (by injection hg); omega))
     ·exact own_keep F2.out (fun g hg => hk2 g (by have hg : g2 = g := (by injection hg); omega))
     ·rw [hwx]
      exact blk_two F3.out
   ·(repeat (first | (refine lex_r fun K hK => ?_; go_big_quiet_op; refine hK _ ?_; clear hK K) | (refine lex_k fun K hK => ?_; go_simp; refine hK _ ?_; clear hK K)))
    (refine lex_e fun K hK => ?_; go_big_op)
    obtain ⟨D1, hD1⟩ : ∃ x, x = D.alloc (.cells #[] 3) := ⟨_, rfl⟩
    rw [← hD1]
    have bD1 : Below D.heap.size D D1 := by rw [hD1]; exact (Below.refl _ _).alloc (Nat.le_refl _) _
    have zD1 : D.heap.size + 1 ≤ D1.heap.size := by rw [hD1]; simp
    have HsD1 := Lib.hid bD1
    have HA := Lib.hid (HA.out.trans (bD1.mono (by omega)))
    (try have F0 := Lib.hid (own_below F0.out bD1 (Nat.le_refl _)))
    (try have F1 := Lib.hid (own_below F1.out bD1 (Nat.le_refl _)))
    (try have F2 := Lib.hid (own_below F2.out bD1 (Nat.le_refl _)))
    (try have F3 := Lib.hid (F3.out.below bD1 F3.out.lt))
    obtain ⟨g0, hg0⟩ : ∃ g, g = D.heap.size := ⟨_, rfl⟩
    have F0 := Lib.hid (show D1.ownsRow w3.heap.size 3 1 (.slice (some ⟨g0, 0, none⟩) 0 0) 0 [] by rw [hD1, hg0]; exact own_up (World.ownsRow_made (base := D.heap.size) (size := 1) (e := 3) D #[] 0 (Nat.le_refl _) (by unfold maxLen; omega) rfl) (fun g hg => by have hg : D.heap.size = g := (by injection hg); omega))
    rw [← hg0]
    have lg0a : D.heap.size ≤ g0 := by omega
    have lg0b : g0 < D1.heap.size := by omega
    clear hg0
    refine hK _ _ (Cls.mk' HA.out) ?_
    clear hK K hD1 bD1
    (repeat (first | (refine lex_r fun K hK => ?_; go_big_quiet_op; refine hK _ ?_; clear hK K) | (refine lex_k fun K hK => ?_; go_simp; refine hK _ ?_; clear hK K)))
    refine lex_e fun K hK => ?_
    have hrd := rep_reads (HV1.out.under hS2 (HB3.out.trans (HA.out.mono (by omega)))) (B := D1.heap.size) (fun b hb => by have := hS2 b hb; omega)
    refine wp_append_any _ _ _ 28 (by rfl) w3.heap.size 3 i0 (.int .i64 0) 1 8 Try.underlying28 hi hz0' hz1' hz2' rfl (by decide) _ _ _ (by rfl) F0.out _ _ nw d1 (ints st.2) (by rfl) hrd (ints_one _) (by unfold maxLen; omega) (by omega) (by omega) ?_
    intro v7 D2 hown7 hgrow7 hblk7
    go_simp
    rw [Nat.zero_add, List.nil_append] at hown7
    obtain ⟨g2, c2', rfl⟩ : ∃ g c, v7 = .slice (some ⟨g, 0, none⟩) nw c := by
     rcases hown7.2 with ⟨rfl, _⟩ | ⟨g, cap, cur, rfl, _⟩
     ·exfalso
      rcases hblk7 with h1 | h1
      ·have h2 : (none : Option Nat) = some _ := h1
       cases h2
      ·have h2 : (none : Option Nat) = some _ := h1
       cases h2
     ·exact ⟨g, cap, rfl⟩
    have hg2 : g2 = g0 ∨ g2 = D1.heap.size := by
     rcases hblk7 with h1 | h1
     ·exact .inl (by injection h1)
     ·exact .inr (by injection h1)
    have zD2 : D1.heap.size ≤ D2.heap.size := hgrow7.size
    have hl2 := (hown7.lt g2 rfl).2
    have hkp : ∀ b, b < D1.heap.size → b ≠ g0 → D2.heap[b]? = D1.heap[b]? := fun b h1 h2 => hgrow7.block b h1 (fun e => h2 (by injection e))
    have HA := Lib.hid (HA.out.trans (below_of_grown hgrow7 (by omega) (fun g hg => by have hg : g0 = g := (by injection hg); omega)))
    (try have F1 := Lib.hid (own_keep F1.out (fun g hg => hkp g (by have := (F1.out.lt g hg).2; omega) (by have hg : g1 = g := (by injection hg); omega))))
    (try have F3 := Lib.hid (show Blk D2 gb 33 #[.slice none 0 0, .slice none 0 0] from (hkp gb F3.out.lt (by omega)).trans F3.out))
    have F2 := Lib.hid hown7
    refine hK _ _ (Cls.mk' HA.out) ?_
    clear hK K hown7 hgrow7 hblk7 hrd hkp
    (repeat (first | (refine lex_r fun K hK => ?_; go_big_quiet_op; refine hK _ ?_; clear hK K) | (refine lex_k fun K hK => ?_; go_simp; refine hK _ ?_; clear hK K)))
    (refine lex_e fun K hK => ?_; go_big_op)
    obtain ⟨D3, hD3⟩ : ∃ x, x = D2.alloc (.cells (madeCells #[.int .i64 0] ns) 3) := ⟨_, rfl⟩
    rw [← hD3]
    have bD3 : Below D2.heap.size D2 D3 := by rw [hD3]; exact (Below.refl _ _).alloc (Nat.le_refl _) _
    have zD3 : D2.heap.size + 1 ≤ D3.heap.size := by rw [hD3]; simp
    have HsD3 := Lib.hid bD3
    have HA := Lib.hid (HA.out.trans (bD3.mono (by omega)))
    (try have F0 := Lib.hid (own_below F0.out bD3 (Nat.le_refl _)))
    (try have F1 := Lib.hid (own_below F1.out bD3 (Nat.le_refl _)))
    (try have F2 := Lib.hid (own_below F2.out bD3 (Nat.le_refl _)))
    (try have F3 := Lib.hid (F3.out.below bD3 F3.out.lt))
    obtain ⟨g1, hg1⟩ : ∃ g, g = D2.heap.size := ⟨_, rfl⟩
    have F1 := Lib.hid (show D3.ownsRow w3.heap.size 3 1 (.slice (some ⟨g1, 0, none⟩) ns ns) ns (ints (List.replicate ns 0)) by rw [hD3, hg1]; exact own_made0 (by unfold maxLen; omega) (by omega))
    rw [← hg1]
    have lg1a : D2.heap.size ≤ g1 := by omega
    have lg1b : g1 < D3.heap.size := by omega
    clear hg1
    refine hK _ _ (Cls.mk' HA.out) ?_
    clear hK K hD3 bD3
    (repeat (first | (refine lex_r fun K hK => ?_; go_big_quiet_op; refine hK _ ?_; clear hK K) | (refine lex_k fun K hK => ?_; go_simp; refine hK _ ?_; clear hK K)))
    (refine lex_e fun K hK => ?_; go_big_op)
    obtain ⟨D4, hD4⟩ : ∃ x, x = D3.alloc (.cells #[.slice none 0 0, .slice none 0 0] 33) := ⟨_, rfl⟩
    rw [← hD4]
    have bD4 : Below D3.heap.size D3 D4 := by rw [hD4]; exact (Below.refl _ _).alloc (Nat.le_refl _) _
    have zD4 : D3.heap.size + 1 ≤ D4.heap.size := by rw [hD4]; simp
    have HsD4 := Lib.hid bD4
    have HA := Lib.hid (HA.out.trans (bD4.mono (by omega)))
    (try have F0 := Lib.hid (own_below F0.out bD4 (Nat.le_refl _)))
    (try have F1 := Lib.hid (own_below F1.out bD4 (Nat.le_refl _)))
    (try have F2 := Lib.hid (own_below F2.out bD4 (Nat.le_refl _)))
    (try have F3 := Lib.hid (F3.out.below bD4 F3.out.lt))
    obtain ⟨gb, hgb⟩ : ∃ g, g = D3.heap.size := ⟨_, rfl⟩
    have F3 := Lib.hid (show Blk D4 gb 33 #[.slice none 0 0, .slice none 0 0] by rw [hD4, hgb]; exact Blk.new _ _ _)
    rw [← hgb]
    have lgba : D3.heap.size ≤ gb := by omega
    have lgbb : gb < D4.heap.size := by omega
    clear hgb
    refine hK _ _ (Cls.mk' HA.out) ?_
    clear hK K hD4 bD4
    clear cs0 cs1 cm0 cm1 cm2 cm3
    obtain ⟨q0, q1⟩ := blkS2 F3.out
    have f0 := F3.out.frozen 0
    have f1 := F3.out.frozen 1
    (repeat (first | (refine lex_r fun K hK => ?_; go_big_quiet_op; refine hK _ ?_; clear hK K) | (refine lex_k fun K hK => ?_; go_simp; refine hK _ ?_; clear hK K)))
    (refine lex_e fun K hK => ?_; go_big_op)
    obtain ⟨wx, hwx⟩ : ∃ x, x = ((D4.setCell ⟨gb, 0, none⟩ (.slice (some ⟨g1, 0, none⟩) ns ns)).setCell ⟨gb, 1, none⟩ (.slice (some ⟨g2, 0, none⟩) nw c2')) := ⟨_, rfl⟩
    rw [← hwx]
    have HA := Lib.hid (show Below w3.heap.size w3 wx by rw [hwx]; exact (HA.out.setCell (by show w3.heap.size ≤ gb; omega) _).setCell (by show w3.heap.size ≤ gb; omega) _)
    refine hK _ _ (Cls.mk' HA.out) ?_
    clear hK K q0 q1 f0 f1
    (repeat (first | (refine lex_r fun K hK => ?_; go_big_quiet_op; refine hK _ ?_; clear hK K) | (refine lex_k fun K hK => ?_; go_simp; refine hK _ ?_; clear hK K)))
    (refine lex_nil ?_)
    refine ⟨Cls.mk' HA.out, ?_⟩
    clear lexNE
    go_wp2_with fail
    go_meet
    case rel =>
     have hk2 : ∀ b, b ≠ gb → wx.heap[b]? = D4.heap[b]? := fun b hb => by
      rw [hwx]
      exact (Below.heap_setCell _ ⟨gb, 1, none⟩ _ b hb).trans (Below.heap_setCell _ ⟨gb, 0, none⟩ _ b hb)
     refine ⟨gb, g1, g2, c2', rfl, ?_, ?_, ?_, ⟨by omega, by omega, by omega⟩, ⟨by omega, by omega, by omega⟩, HA.out⟩
     ·exact own_keep F1.out (fun g hg => hk2 g (by have hg : g1 = g := (by injection hg); omega))
     ·exact own_keep F2.out (fun g hg => hk2 g (by have hg : g2 = g := (by injection hg); omega))
     ·rw [hwx]
      exact blk_two F3.out
   ·(repeat (first | (refine lex_r fun K hK => ?_; go_big_quiet_op; refine hK _ ?_; clear hK K) | (refine lex_k fun K hK => ?_; go_simp; refine hK _ ?_; clear hK K)))
    (refine lex_e fun K hK => ?_; go_big_op)
    obtain ⟨D1, hD1⟩ : ∃ x, x = D.alloc (.cells #[] 3) := ⟨_, rfl⟩
    rw [← hD1]
    have bD1 : Below D.heap.size D D1 := by rw [hD1]; exact (Below.refl _ _).alloc (Nat.le_refl _) _
    have zD1 : D.heap.size + 1 ≤ D1.heap.size := by rw [hD1]; simp
    have HsD1 := Lib.hid bD1
    have HA := Lib.hid (HA.out.trans (bD1.mono (by omega)))
    (try have F0 := Lib.hid (own_below F0.out bD1 (Nat.le_refl _)))
    (try have F1 := Lib.hid (own_below F1.out bD1 (Nat.le_refl _)))
    (try have F2 := Lib.hid (own_below F2.out bD1 (Nat.le_refl _)))
    (try have F3 := Lib.hid (F3.out.below bD1 F3.out.lt))
    obtain ⟨g0, hg0⟩ : ∃ g, g = D.heap.size := ⟨_, rfl⟩
    have F0 := Lib.hid (show D1.ownsRow w3.heap.size 3 1 (.slice (some ⟨g0, 0, none⟩) 0 0) 0 [] by rw [hD1, hg0]; exact own_up (World.ownsRow_made (base := D.heap.size) (size := 1) (e := 3) D #[] 0 (Nat.le_refl _) (by unfold maxLen; omega) rfl) (fun g hg => by have hg : D.heap.size = g := (by injection hg); omega))
    rw [← hg0]
    have lg0a : D.heap.size ≤ g0 := by omega
    have lg0b : g0 < D1.heap.size := by omega
    clear hg0
    refine hK _ _ (Cls.mk' HA.out) ?_
    clear hK K hD1 bD1
    (repeat (first | (refine lex_r fun K hK => ?_; go_big_quiet_op; refine hK _ ?_; clear hK K) | (refine lex_k fun K hK => ?_; go_simp; refine hK _ ?_; clear hK K)))
    refine lex_e fun K hK => ?_
    have hrd := rep_reads (HV1.out.under hS2 (HB3.out.trans (HA.out.mono (by omega)))) (B := D1.heap.size) (fun b hb => by have := hS2 b hb; omega)
    refine wp_append_any _ _ _ 28 (by rfl) w3.heap.size 3 i0 (.int .i64 0) 1 8 Try.underlying28 hi hz0' hz1' hz2' rfl (by decide) _ _ _ (by rfl) F0.out _ _ nw d1 (ints st.2) (by rfl) hrd (ints_one _) (by unfold maxLen; omega) (by omega) (by omega) ?_
    intro v7 D2 hown7 hgrow7 hblk7
    go_simp
    rw [Nat.zero_add, List.nil_append] at hown7
    obtain ⟨g2, c2', rfl⟩ : ∃ g c, v7 = .slice (some ⟨g, 0, none⟩) nw c := by
     rcases hown7.2 with ⟨rfl, _⟩ | ⟨g, cap, cur, rfl, _⟩
     ·exfalso
      rcases hblk7 with h1 | h1
      ·have h2 : (none : Option Nat) = some _ := h1
       cases h2
      ·have h2 : (none : Option Nat) = some _ := h1
       cases h2
     ·exact ⟨g, cap, rfl⟩
    have hg2 : g2 = g0 ∨ g2 = D1.heap.size := by
     rcases hblk7 with h1 | h1
     ·exact .inl (by injection h1)
     ·exact .inr (by injection h1)
    have zD2 : D1.heap.size ≤ D2.heap.size := hgrow7.size
    have hl2 := (hown7.lt g2 rfl).2
    have hkp : ∀ b, b < D1.heap.size → b ≠ g0 → D2.heap[b]? = D1.heap[b]? := fun b h1 h2 => hgrow7.block b h1 (fun e => h2 (by injection e))
    have HA := Lib.hid (HA.out.trans (below_of_grown hgrow7 (by omega) (fun g hg => by have hg : g0 = g := (by injection hg); omega)))
    (try have F1 := Lib.hid (own_keep F1.out (fun g hg => hkp g (by have := (F1.out.lt g hg).2; omega) (by have hg : g1 = g := (by injection hg); omega))))
    (try have F3 := Lib.hid (show Blk D2 gb 33 #[.slice none 0 0, .slice none 0 0] from (hkp gb F3.out.lt (by omega)).trans F3.out))
    have F2 := Lib.hid hown7
    refine hK _ _ (Cls.mk' HA.out) ?_
    clear hK K hown7 hgrow7 hblk7 hrd hkp
    (repeat (first | (refine lex_r fun K hK => ?_; go_big_quiet_op; refine hK _ ?_; clear hK K) | (refine lex_k fun K hK => ?_; go_simp; refine hK _ ?_; clear hK K)))
    (refine lex_e fun K hK => ?_; go_big_op)
    obtain ⟨D3, hD3⟩ : ∃ x, x = D2.alloc (.cells #[.slice none 0 0, .slice none 0 0] 33) := ⟨_, rfl⟩
    rw [← hD3]
    have bD3 : Below D2.heap.size D2 D3 := by rw [hD3]; exact (Below.refl _ _).alloc (Nat.le_refl _) _
    have zD3 : D2.heap.size + 1 ≤ D3.heap.size := by rw [hD3]; simp
    have HsD3 := Lib.hid bD3
    have HA := Lib.hid (HA.out.trans (bD3.mono (by omega)))
    (try have F0 := Lib.hid (own_below F0.out bD3 (Nat.le_refl _)))
    (try have F1 := Lib.hid (own_below F1.out bD3 (Nat.le_refl _)))
    (try have F2 := Lib.hid (own_below F2.out bD3 (Nat.le_refl _)))
    (try have F3 := Lib.hid (F3.out.below bD3 F3.out.lt))
    obtain ⟨gb, hgb⟩ : ∃ g, g = D2.heap.size := ⟨_, rfl⟩
    have F3 := Lib.hid (show Blk D3 gb 33 #[.slice none 0 0, .slice none 0 0] by rw [hD3, hgb]; exact Blk.new _ _ _)
    rw [← hgb]
    have lgba : D2.heap.size ≤ gb := by omega
    have lgbb : gb < D3.heap.size := by omega
    clear hgb
    refine hK _ _ (Cls.mk' HA.out) ?_
    clear hK K hD3 bD3
    (repeat (first | (refine lex_r fun K hK => ?_; go_big_quiet_op; refine hK _ ?_; clear hK K) | (refine lex_k fun K hK => ?_; go_simp; refine hK _ ?_; clear hK K)))
    (refine lex_e fun K hK => ?_; go_big_op)
    obtain ⟨D4, hD4⟩ : ∃ x, x = D3.alloc (.cells (madeCells #[.int .i64 0] ns) 3) := ⟨_, rfl⟩
    rw [← hD4]
    have bD4 : Below D3.heap.size D3 D4 := by rw [hD4]; exact (Below.refl _ _).alloc (Nat.le_refl _) _
    have zD4 : D3.heap.size + 1 ≤ D4.heap.size := by rw [hD4]; simp
    have HsD4 := Lib.hid bD4
    have HA := Lib.hid (HA.out.trans (bD4.mono (by omega)))
    (try have F0 := Lib.hid (own_below F0.out bD4 (Nat.le_refl _)))
    (try have F1 := Lib.hid (own_below F1.out bD4 (Nat.le_refl _)))
    (try have F2 := Lib.hid (own_below F2.out bD4 (Nat.le_refl _)))
    (try have F3 := Lib.hid (F3.out.below bD4 F3.out.lt))
    obtain ⟨g1, hg1⟩ : ∃ g, g = D3.heap.size := ⟨_, rfl⟩
    have F1 := Lib.hid (show D4.ownsRow w3.heap.size 3 1 (.slice (some ⟨g1, 0, none⟩) ns ns) ns (ints (List.replicate ns 0)) by rw [hD4, hg1]; exact own_made0 (by unfold maxLen; omega) (by omega))
    rw [← hg1]
    have lg1a : D3.heap.size ≤ g1 := by omega
    have lg1b : g1 < D4.heap.size := by omega
    clear hg1
    refine hK _ _ (Cls.mk' HA.out) ?_
    clear hK K hD4 bD4
    clear cs0 cs1 cm0 cm1 cm2 cm3
    obtain ⟨q0, q1⟩ := blkS2 F3.out
    have f0 := F3.out.frozen 0
    have f1 := F3.out.frozen 1
    (repeat (first | (refine lex_r fun K hK => ?_; go_big_quiet_op; refine hK _ ?_; clear hK K) | (refine lex_k fun K hK => ?_; go_simp; refine hK _ ?_; clear hK K)))
    (refine lex_e fun K hK => ?_; go_big_op)
    obtain ⟨wx, hwx⟩ : ∃ x, x = ((D4.setCell ⟨gb, 0, none⟩ (.slice (some ⟨g1, 0, none⟩) ns ns)).setCell ⟨gb, 1, none⟩ (.slice (some ⟨g2, 0, none⟩) nw c2')) := ⟨_, rfl⟩
    rw [← hwx]
    have HA := Lib.hid (show Below w3.heap.size w3 wx by rw [hwx]; exact (HA.out.setCell (by show w3.heap.size ≤ gb; omega) _).setCell (by show w3.heap.size ≤ gb; omega) _)
    refine hK _ _ (Cls.mk' HA.out) ?_
    clear hK K q0 q1 f0 f1
    (repeat (first | (refine lex_r fun K hK => ?_; go_big_quiet_op; refine hK _ ?_; clear hK K) | (refine lex_k fun K hK => ?_; go_simp; refine hK _ ?_; clear hK K)))
    (refine lex_nil ?_)
    refine ⟨Cls.mk' HA.out, ?_⟩
    clear lexNE
    go_wp2_with fail
    go_meet
    case rel =>
     have hk2 : ∀ b, b ≠ gb → wx.heap[b]? = D4.heap[b]? := fun b hb => by
      rw [hwx]
      exact (Below.heap_setCell _ ⟨gb, 1, none⟩ _ b hb).trans (Below.heap_setCell _ ⟨gb, 0, none⟩ _ b hb)
     refine ⟨gb, g1, g2, c2', rfl, ?_, ?_, ?_, ⟨by omega, by omega, by omega⟩, ⟨by omega, by omega, by omega⟩, HA.out⟩
     ·exact own_keep F1.out (fun g hg => hk2 g (by have hg : g1 = g := (by injection hg); omega))
     ·exact own_keep F2.out (fun g hg => hk2 g (by have hg : g2 = g := (by injection hg); omega))
     ·rw [hwx]
      exact blk_two F3.out
   ·(repeat (first | (refine lex_r fun K hK => ?_; go_big_quiet_op; refine hK _ ?_; clear hK K) | (refine lex_k fun K hK => ?_; go_simp; refine hK _ ?_; clear hK K)))
    (refine lex_e fun K hK => ?_; go_big_op)
    obtain ⟨D1, hD1⟩ : ∃ x, x = D.alloc (.cells #[] 3) := ⟨_, rfl⟩
    rw [← hD1]
    have bD1 : Below D.heap.size D D1 := by rw [hD1]; exact (Below.refl _ _).alloc (Nat.le_refl _) _
    have zD1 : D.heap.size + 1 ≤ D1.heap.size := by rw [hD1]; simp
    have HsD1 := Lib.hid bD1
    have HA := Lib.hid (HA.out.trans (bD1.mono (by omega)))
    (try have F0 := Lib.hid (own_below F0.out bD1 (Nat.le_refl _)))
    (try have F1 := Lib.hid (own_below F1.out bD1 (Nat.le_refl _)))
    (try have F2 := Lib.hid (own_below F2.out bD1 (Nat.le_refl _)))
    (try have F3 := Lib.hid (F3.out.below bD1 F3.out.lt))
    obtain ⟨g0, hg0⟩ : ∃ g, g = D.heap.size := ⟨_, rfl⟩
    have F0 := Lib.hid (show D1.ownsRow w3.heap.size 3 1 (.slice (some ⟨g0, 0, none⟩) 0 0) 0 [] by rw [hD1, hg0]; exact own_up (World.ownsRow_made (base := D.heap.size) (size := 1) (e := 3) D #[] 0 (Nat.le_refl _) (by unfold maxLen; omega) rfl) (fun g hg => by have hg : D.heap.size = g := (by injection hg); omega))
    rw [← hg0]
    have lg0a : D.heap.size ≤ g0 := by omega
    have lg0b : g0 < D1.heap.size := by omega
    clear hg0
    refine hK _ _ (Cls.mk' HA.out) ?_
    clear hK K hD1 bD1
    (repeat (first | (refine lex_r fun K hK => ?_; go_big_quiet_op; refine hK _ ?_; clear hK K) | (refine lex_k fun K hK => ?_; go_simp; refine hK _ ?_; clear hK K)))
    (refine lex_e fun K hK => ?_; go_big_op)
    obtain ⟨D2, hD2⟩ : ∃ x, x = D1.alloc (.cells #[.slice none 0 0, .slice none 0 0] 33) := ⟨_, rfl⟩
    rw [← hD2]
    have bD2 : Below D1.heap.size D1 D2 := by rw [hD2]; exact (Below.refl _ _).alloc (Nat.le_refl _) _
    have zD2 : D1.heap.size + 1 ≤ D2.heap.size := by rw [hD2]; simp
    have HsD2 := Lib.hid bD2
    have HA := Lib.hid (HA.out.trans (bD2.mono (by omega)))
    (try have F0 := Lib.hid (own_below F0.out bD2 (Nat.le_refl _)))
    (try have F1 := Lib.hid (own_below F1.out bD2 (Nat.le_refl _)))
    (try have F2 := Lib.hid (own_below F2.out bD2 (Nat.le_refl _)))
    (try have F3 := Lib.hid (F3.out.below bD2 F3.out.lt))
    obtain ⟨gb, hgb⟩ : ∃ g, g = D1.heap.size := ⟨_, rfl⟩
    have F3 := Lib.hid (show Blk D2 gb 33 #[.slice none 0 0, .slice none 0 0] by rw [hD2, hgb]; exact Blk.new _ _ _)
    rw [← hgb]
    have lgba : D1.heap.size ≤ gb := by omega
    have lgbb : gb < D2.heap.size := by omega
    clear hgb
    refine hK _ _ (Cls.mk' HA.out) ?_
    clear hK K hD2 bD2
    (repeat (first | (refine lex_r fun K hK => ?_; go_big_quiet_op; refine hK _ ?_; clear hK K) | (refine lex_k fun K hK => ?_; go_simp; refine hK _ ?_; clear hK K)))
    refine lex_e fun K hK => ?_
    have hrd := rep_reads (HV1.out.under hS2 (HB3.out.trans (HA.out.mono (by omega)))) (B := D2.heap.size) (fun b hb => by have := hS2 b hb; omega)
    refine wp_append_any _ _ _ 28 (by rfl) w3.heap.size 3 i0 (.int .i64 0) 1 8 Try.underlying28 hi hz0' hz1' hz2' rfl (by decide) _ _ _ (by rfl) F0.out _ _ nw d1 (ints st.2) (by rfl) hrd (ints_one _) (by unfold maxLen; omega) (by omega) (by omega) ?_
    intro v7 D3 hown7 hgrow7 hblk7
    go_simp
    rw [Nat.zero_add, List.nil_append] at hown7
    obtain ⟨g2, c2', rfl⟩ : ∃ g c, v7 = .slice (some ⟨g, 0, none⟩) nw c := by
     rcases hown7.2 with ⟨rfl, _⟩ | ⟨g, cap, cur, rfl, _⟩
     ·exfalso
      rcases hblk7 with h1 | h1
      ·have h2 : (none : Option Nat) = some _ := h1
       cases h2
      ·have h2 : (none : Option Nat) = some _ := h1
       cases h2
     ·exact ⟨g, cap, rfl⟩
    have hg2 : g2 = g0 ∨ g2 = D2.heap.size := by
     rcases hblk7 with h1 | h1
     ·exact .inl (by injection h1)
     ·exact .inr (by injection h1)
    have zD3 : D2.heap.size ≤ D3.heap.size := hgrow7.size
    have hl2 := (hown7.lt g2 rfl).2
    have hkp : ∀ b, b < D2.heap.size → b ≠ g0 → D3.heap[b]? = D2.heap[b]? := fun b h1 h2 => hgrow7.block b h1 (fun e => h2 (by injection e))
    have HA := Lib.hid (HA.out.trans (below_of_grown hgrow7 (by omega) (fun g hg => by have hg : g0 = g := (by injection hg); omega)))
    (try have F1 := Lib.hid (own_keep F1.out (fun g hg => hkp g (by have := (F1.out.lt g hg).2; omega) (by have hg : g1 = g := (by injection hg); omega))))
    (try have F3 := Lib.hid (show Blk D3 gb 33 #[.slice none 0 0, .slice none 0 0] from (hkp gb F3.out.lt (by omega)).trans F3.out))
    have F2 := Lib.hid hown7
    refine hK _ _ (Cls.mk' HA.out) ?_
    clear hK K hown7 hgrow7 hblk7 hrd hkp
    (repeat (first | (refine lex_r fun K hK => ?_; go_big_quiet_op; refine hK _ ?_; clear hK K) | (refine lex_k fun K hK => ?_; go_simp; refine hK _ ?_; clear hK K)))
    (refine lex_e fun K hK => ?_; go_big_op)
    obtain ⟨D4, hD4⟩ : ∃ x, x = D3.alloc (.cells (madeCells #[.int .i64 0] ns) 3) := ⟨_, rfl⟩
    rw [← hD4]
    have bD4 : Below D3.heap.size D3 D4 := by rw [hD4]; exact (Below.refl _ _).alloc (Nat.le_refl _) _
    have zD4 : D3.heap.size + 1 ≤ D4.heap.size := by rw [hD4]; simp
    have HsD4 := Lib.hid bD4
    have HA := Lib.hid (HA.out.trans (bD4.mono (by omega)))
    (try have F0 := Lib.hid (own_below F0.out bD4 (Nat.le_refl _)))
    (try have F1 := Lib.hid (own_below F1.out bD4 (Nat.le_refl _)))
    (try have F2 := Lib.hid (own_below F2.out bD4 (Nat.le_refl _)))
    (try have F3 := Lib.hid (F3.out.below bD4 F3.out.lt))
    obtain ⟨g1, hg1⟩ : ∃ g, g = D3.heap.size := ⟨_, rfl⟩
    have F1 := Lib.hid (show D4.ownsRow w3.heap.size 3 1 (.slice (some ⟨g1, 0, none⟩) ns ns) ns (ints (List.replicate ns 0)) by rw [hD4, hg1]; exact own_made0 (by unfold maxLen; omega) (by omega))
    rw [← hg1]
    have lg1a : D3.heap.size ≤ g1 := by omega
    have lg1b : g1 < D4.heap.size := by omega
    clear hg1
    refine hK _ _ (Cls.mk' HA.out) ?_
    clear hK K hD4 bD4
    clear cs0 cs1 cm0 cm1 cm2 cm3
    obtain ⟨q0, q1⟩ := blkS2 F3.out
    have f0 := F3.out.frozen 0
    have f1 := F3.out.frozen 1
    (repeat (first | (refine lex_r fun K hK => ?_; go_big_quiet_op; refine hK _ ?_; clear hK K) | (refine lex_k fun K hK => ?_; go_simp; refine hK _ ?_; clear hK K)))
    (refine lex_e fun K hK => ?_; go_big_op)
    obtain ⟨wx, hwx⟩ : ∃ x, x = ((D4.setCell ⟨gb, 0, none⟩ (.slice (some ⟨g1, 0, none⟩) ns ns)).setCell ⟨gb, 1, none⟩ (.slice (some ⟨g2, 0, none⟩) nw c2')) := ⟨_, rfl⟩
    rw [← hwx]
    have HA := Lib.hid (show Below w3.heap.size w3 wx by rw [hwx]; exact (HA.out.setCell (by show w3.heap.size ≤ gb; omega) _).setCell (by show w3.heap.size ≤ gb; omega) _)
    refine hK _ _ (Cls.mk' HA.out) ?_
    clear hK K q0 q1 f0 f1
    (repeat (first | (refine lex_r fun K hK => ?_; go_big_quiet_op; refine hK _ ?_; clear hK K) | (refine lex_k fun K hK => ?_; go_simp; refine hK _ ?_; clear hK K)))
    (refine lex_nil ?_)
    refine ⟨Cls.mk' HA.out, ?_⟩
    clear lexNE
    go_wp2_with fail
    go_meet
    case rel =>
     have hk2 : ∀ b, b ≠ gb → wx.heap[b]? = D4.heap[b]? := fun b hb => by
      rw [hwx]
      exact (Below.heap_setCell _ ⟨gb, 1, none⟩ _ b hb).trans (Below.heap_setCell _ ⟨gb, 0, none⟩ _ b hb)
     refine ⟨gb, g1, g2, c2', rfl, ?_, ?_, ?_, ⟨by omega, by omega, by omega⟩, ⟨by omega, by omega, by omega⟩, HA.out⟩
     ·exact own_keep F1.out (fun g hg => hk2 g (by have hg : g1 = g := (by injection hg); omega))
     ·exact own_keep F2.out (fun g hg => hk2 g (by have hg : g2 = g := (by injection hg); omega))
     ·rw [hwx]
      exact blk_two F3.out
   ·(repeat (first | (refine lex_r fun K hK => ?_; go_big_quiet_op; refine hK _ ?_; clear hK K) | (refine lex_k fun K hK => ?_; go_simp; refine hK _ ?_; clear hK K)))
    (refine lex_e fun K hK => ?_; go_big_op)
    obtain ⟨D1, hD1⟩ : ∃ x, x = D.alloc (.cells #[.slice none 0 0, .slice none 0 0] 33) := ⟨_, rfl⟩
    rw [← hD1]
    have bD1 : Below D.heap.size D D1 := by rw [hD1]; exact (Below.refl _ _).alloc (Nat.le_refl _) _
    have zD1 : D.heap.size + 1 ≤ D1.heap.size := by rw [hD1]; simp
    have HsD1 := Lib.hid bD1
    have HA := Lib.hid (HA.out.trans (bD1.mono (by omega)))
    (try have F0 := Lib.hid (own_below F0.out bD1 (Nat.le_refl _)))
    (try have F1 := Lib.hid (own_below F1.out bD1 (Nat.le_refl _)))
    (try have F2 := Lib.hid (own_below F2.out bD1 (Nat.le_refl _)))
    (try have F3 := Lib.hid (F3.out.below bD1 F3.out.lt))
    obtain ⟨gb, hgb⟩ : ∃ g, g = D.heap.size := ⟨_, rfl⟩
    have F3 := Lib.hid (show Blk D1 gb 33 #[.slice none 0 0, .slice none 0 0] by rw [hD1, hgb]; exact Blk.new _ _ _)
    rw [← hgb]
    have lgba : D.heap.size ≤ gb := by omega
    have lgbb : gb < D1.heap.size := by omega
    clear hgb
    refine hK _ _ (Cls.mk' HA.out) ?_
    clear hK K hD1 bD1
    (repeat (first | (refine lex_r fun K hK => ?_; go_big_quiet_op; refine hK _ ?_; clear hK K) | (refine lex_k fun K hK => ?_; go_simp; refine hK _ ?_; clear hK K)))
    (refine lex_e fun K hK => ?_; go_big_op)
    obtain ⟨D2, hD2⟩ : ∃ x, x = D1.alloc (.cells #[] 3) := ⟨_, rfl⟩
    rw [← hD2]
    have bD2 : Below D1.heap.size D1 D2 := by rw [hD2]; exact (Below.refl _ _).alloc (Nat.le_refl _) _
    have zD2 : D1.heap.size + 1 ≤ D2.heap.size := by rw [hD2]; simp
    have HsD2 := Lib.hid bD2
    have HA := Lib.hid (HA.out.trans (bD2.mono (by omega)))
    (try have F0 := Lib.hid (own_below F0.out bD2 (Nat.le_refl _)))
    (try have F1 := Lib.hid (own_below F1.out bD2 (Nat.le_refl _)))
    (try have F2 := Lib.hid (own_below F2.out bD2 (Nat.le_refl _)))
    (try have F3 := Lib.hid (F3.out.below bD2 F3.out.lt))
    obtain ⟨g0, hg0⟩ : ∃ g, g = D1.heap.size := ⟨_, rfl⟩
    have F0 := Lib.hid (show D2.ownsRow w3.heap.size 3 1 (.slice (some ⟨g0, 0, none⟩) 0 0) 0 [] by rw [hD2, hg0]; exact own_up (World.ownsRow_made (base := D1.heap.size) (size := 1) (e := 3) D1 #[] 0 (Nat.le_refl _) (by unfold maxLen; omega) rfl) (fun g hg => by have hg : D1.heap.size = g := (by injection hg); omega))
    rw [← hg0]
    have lg0a : D1.heap.size ≤ g0 := by omega
    have lg0b : g0 < D2.heap.size := by omega
    clear hg0
    refine hK _ _ (Cls.mk' HA.out) ?_
    clear hK K hD2 bD2
    (repeat (first | (refine lex_r fun K hK => ?_; go_big_quiet_op; refine hK _ ?_; clear hK K) | (refine lex_k fun K hK => ?_; go_simp; refine hK _ ?_; clear hK K)))
    refine lex_e fun K hK => ?_
    have hrd := rep_reads (HV1.out.under hS2 (HB3.out.trans (HA.out.mono (by omega)))) (B := D2.heap.size) (fun b hb => by have := hS2 b hb; omega)
    refine wp_append_any _ _ _ 28 (by rfl) w3.heap.size 3 i0 (.int .i64 0) 1 8 Try.underlying28 hi hz0' hz1' hz2' rfl (by decide) _ _ _ (by rfl) F0.out _ _ nw d1 (ints st.2) (by rfl) hrd (ints_one _) (by unfold maxLen; omega) (by omega) (by omega) ?_
    intro v7 D3 hown7 hgrow7 hblk7
    go_simp
    rw [Nat.zero_add, List.nil_append] at hown7
    obtain ⟨g2, c2', rfl⟩ : ∃ g c, v7 = .slice (some ⟨g, 0, none⟩) nw c := by
     rcases hown7.2 with ⟨rfl, _⟩ | ⟨g, cap, cur, rfl, _⟩
     ·exfalso
      rcases hblk7 with h1 | h1
      ·have h2 : (none : Option Nat) = some _ := h1
       cases h2
      ·have h2 : (none : Option Nat) = some _ := h1
       cases h2
     ·exact ⟨g, cap, rfl⟩
    have hg2 : g2 = g0 ∨ g2 = D2.heap.size := by
     rcases hblk7 with h1 | h1
     ·exact .inl (by injection h1)
     ·exact .inr (by injection h1)
    have zD3 : D2.heap.size ≤ D3.heap.size := hgrow7.size
    have hl2 := (hown7.lt g2 rfl).2
    have hkp : ∀ b, b < D2.heap.size → b ≠ g0 → D3.heap[b]? = D2.heap[b]? := fun b h1 h2 => hgrow7.block b h1 (fun e => h2 (by injection e))
    have HA := Lib.hid (HA.out.trans (below_of_grown hgrow7 (by omega) (fun g hg => by have hg : g0 = g := (by injection hg); omega)))
    (try have F1 := Lib.hid (own_keep F1.out (fun g hg => hkp g (by have := (F1.out.lt g hg).2; omega) (by have hg : g1 = g := (by injection hg); omega))))
    (try have F3 := Lib.hid (show Blk D3 gb 33 #[.slice none 0 0, .slice none 0 0] from (hkp gb F3.out.lt (by omega)).trans F3.out))
    have F2 := Lib.hid hown7
    refine hK _ _ (Cls.mk' HA.out) ?_
    clear hK K hown7 hgrow7 hblk7 hrd hkp
    (repeat (first | (refine lex_r fun K hK => ?_; go_big_quiet_op; refine hK _ ?_; clear hK K) | (refine lex_k fun K hK => ?_; go_simp; refine hK _ ?_; clear hK K)))
    (refine lex_e fun K hK => ?_; go_big_op)
    obtain ⟨D4, hD4⟩ : ∃ x, x = D3.alloc (.cells (madeCells #[.int .i64 0] ns) 3) := ⟨_, rfl⟩
    rw [← hD4]
    have bD4 : Below D3.heap.size D3 D4 := by rw [hD4]; exact (Below.refl _ _).alloc (Nat.le_refl _) _
    have zD4 : D3.heap.size + 1 ≤ D4.heap.size := by rw [hD4]; simp
    have HsD4 := Lib.hid bD4
    have HA := Lib.hid (HA.out.trans (bD4.mono (by omega)))
    (try have F0 := Lib.hid (own_below F0.out bD4 (Nat.le_refl _)))
    (try have F1 := Lib.hid (own_below F1.out bD4 (Nat.le_refl _)))
    (try have F2 := Lib.hid (own_below F2.out bD4 (Nat.le_refl _)))
    (try have F3 := Lib.hid (F3.out.below bD4 F3.out.lt))
    obtain ⟨g1, hg1⟩ : ∃ g, g = D3.heap.size := ⟨_, rfl⟩
    have F1 := Lib.hid (show D4.ownsRow w3.heap.size 3 1 (.slice (some ⟨g1, 0, none⟩) ns ns) ns (ints (List.replicate ns 0)) by rw [hD4, hg1]; exact own_made0 (by unfold maxLen; omega) (by omega))
    rw [← hg1]
    have lg1a : D3.heap.size ≤ g1 := by omega
    have lg1b : g1 < D4.heap.size := by omega
    clear hg1
    refine hK _ _ (Cls.mk' HA.out) ?_
    clear hK K hD4 bD4
    clear cs0 cs1 cm0 cm1 cm2 cm3
    obtain ⟨q0, q1⟩ := blkS2 F3.out
    have f0 := F3.out.frozen 0
    have f1 := F3.out.frozen 1
    (repeat (first | (refine lex_r fun K hK => ?_; go_big_quiet_op; refine hK _ ?_; clear hK K) | (refine lex_k fun K hK => ?_; go_simp; refine hK _ ?_; clear hK K)))
    (refine lex_e fun K hK => ?_; go_big_op)
    obtain ⟨wx, hwx⟩ : ∃ x, x = ((D4.setCell ⟨gb, 0, none⟩ (.slice (some ⟨g1, 0, none⟩) ns ns)).setCell ⟨gb, 1, none⟩ (.slice (some ⟨g2, 0, none⟩) nw c2')) := ⟨_, rfl⟩
    rw [← hwx]
    have HA := Lib.hid (show Below w3.heap.size w3 wx by rw [hwx]; exact (HA.out.setCell (by show w3.heap.size ≤ gb; omega) _).setCell (by show w3.heap.size ≤ gb; omega) _)
    refine hK _ _ (Cls.mk' HA.out) ?_
    clear hK K q0 q1 f0 f1
    (repeat (first | (refine lex_r fun K hK => ?_; go_big_quiet_op; refine hK _ ?_; clear hK K) | (refine lex_k fun K hK => ?_; go_simp; refine hK _ ?_; clear hK K)))
    (refine lex_nil ?_)
    refine ⟨Cls.mk' HA.out, ?_⟩
    clear lexNE
    go_wp2_with fail
    go_meet
    case rel =>
     have hk2 : ∀ b, b ≠ gb → wx.heap[b]? = D4.heap[b]? := fun b hb => by
      rw [hwx]
      exact (Below.heap_setCell _ ⟨gb, 1, none⟩ _ b hb).trans (Below.heap_setCell _ ⟨gb, 0, none⟩ _ b hb)
     refine ⟨gb, g1, g2, c2', rfl, ?_, ?_, ?_, ⟨by omega, by omega, by omega⟩, ⟨by omega, by omega, by omega⟩, HA.out⟩
     ·exact own_keep F1.out (fun g hg => hk2 g (by have hg : g1 = g := (by injection hg); omega))
     ·exact own_keep F2.out (fun g hg => hk2 g (by have hg : g2 = g := (by injection hg); omega))
     ·rw [hwx]
      exact blk_two F3.out
  case rest =>
   obtain ⟨gb, g1, g2, c2', rfl, ho1, ho2, hbk, ⟨hd1, hd2, hd3⟩, ⟨hl1, hl2, hl3⟩, hbc⟩ := hcut
   have HX0' := Lib.hid (HXM3.out.below hbc HXM3.out.lt)
   have HS0' := Lib.hid (HXS3.out.below hbc HXS3.out.lt)
   have HR0' := Lib.hid (HXR3.out.below hbc HXR3.out.lt)
   have HOO := Lib.hid (own_below HO3.out hbc (Nat.le_refl _))
   have HQc := Lib.hid (show Rep wc (New w2 w3) (.slice Av ns cv) (fIntS (nI VS)) from HQv.out.keep (fun p hp => hbc.cell hp.2))
   have HO1' := Lib.hid ho1
   have HO2' := Lib.hid ho2
   have HBK := Lib.hid hbk
   have HBc := Lib.hid hbc
   have hsc := hbc.size
   have hlt1 := (ho1.lt g1 rfl).2
   have hlt2 := (ho2.lt g2 rfl).2
   have hltb := hbk.lt
   have hltO := (HO3.out.lt _ rfl).2
   have hU1z : U1.heap.size = U0.heap.size + 1 := by rw [HU1.out]; simp
   have hQ12 : w2.heap.size ≤ w3.heap.size := by omega
   clear hbc ho1 ho2 hbk hmk1
   go_wp2_with fail
   go_loopw [11, 12, 13, 14] (fun iv _ _ _ wr => ∃ k : Nat, k ≤ na ∧ iv = .int .i64 k ∧ wr.ownsRow w3.heap.size 3 1 (.slice (some ⟨g1, 0, none⟩) ns ns) ns (ints (regK m VS k)) ∧ Only (fun b => b = g1) wc wr) (fun iv _ _ _ _ => na - (intOf iv).toNat)
   case atStart => exact ⟨0, Nat.zero_le _, rfl, by have h1 := HO1'.out; unfold regK; rw [Hn.out.1]; exact h1, Only.refl _ _⟩
   case round =>
    obtain ⟨k, hk, rfl, hown, ho⟩ := hrel
    have hsz := ho.size
    have Hbr := Lib.hid (HBc.out.trans (ho.below (B := w3.heap.size) (by omega) (fun b hb => by omega)))
    have Hbw := Lib.hid (HB3.out.trans (Hbr.out.mono (by omega)))
    have HXr := Lib.hid (Only.blk ho HX0'.out (by omega))
    have HSr := Lib.hid (Only.blk ho HS0'.out (by omega))
    have HRr := Lib.hid (Only.blk ho HR0'.out (by omega))
    have HBr := Lib.hid (Only.blk ho HBK.out (by omega))
    have HOr := Lib.hid (own_keep HOO.out (fun g hg => ho.block g (HOO.out.lt g hg).2 (fun hc => by have hg : U0.heap.size = g := (by injection hg); omega)))
    have HQr := Lib.hid (HQc.out.keep (w' := wr) (fun p hp => ho.cell (by have := hp.2; omega) (fun hc => by have h1 : w2.heap.size ≤ p.block := hp.1; have h2 := hp.2; omega)))
    obtain ⟨y0, y1, y2, y3⟩ := blkS4 HXr.out
    have gk : (0 : Int) ≤ (k : Int) := by omega
    have Ho := Lib.hid ho
    have Hown := Lib.hid hown
    clear ho hown
    by_cases hlt : k < na
    ·obtain ⟨ad2, a, os, A1', c1', rfl, hab2, hx, hro, hom, t0, t1⟩ := asg_row (HAs.out.under hS Hbw.out) hlt
     obtain ⟨s, x, rfl, hxs, hw4a, hw4b⟩ := tgt_wid HF.out hx
     have hsn : s < ns := by have := (List.getElem?_eq_some_iff.1 hxs).1; have := Hn.out.1; omega
     obtain ⟨W1, hW1⟩ : ∃ W1, W1 = wr.alloc (.cells #[.int .i64 (s : Int), .slice A1' os.length c1'] 97) := ⟨_, rfl⟩
     have hW1b := Lib.hid (show Below wr.heap.size wr W1 by rw [hW1]; exact (Below.refl _ _).alloc (Nat.le_refl _) _)
     obtain ⟨ad, x0, x1, x2, rfl, hab, hxs', e0, e1, e2⟩ := fSignalS_row (HSg.out.under hS (Hbw.out.trans (hW1b.out.mono (by omega)))) hsn
     obtain rfl : (x0, x1, x2) = x := by rw [hxs] at hxs'; injection hxs' with h1; exact h1.symm
     simp only at hw4a hw4b
     have HOw1 := Lib.hid (show W1.ownsRow w3.heap.size 3 1 (.slice (some ⟨g1, 0, none⟩) ns ns) ns (ints (regK m VS k)) by rw [hW1]; exact Hown.out.alloc _)
     have Ho1 := Lib.hid (show Only (fun b => b = g1) wc W1 by rw [hW1]; exact Ho.out.alloc _)
     have HXb := Lib.hid (show Blk W1 wr.heap.size 97 #[.int .i64 (s : Int), .slice A1' os.length c1'] by rw [hW1]; exact Blk.new _ _ _)
     have HXm1 := Lib.hid (HXr.out.below hW1b.out (by omega))
     have HBr1 := Lib.hid (HBr.out.below hW1b.out (by omega))
     have gs0 : (0 : Int) ≤ (s : Int) := by omega
     have gs1 : (s : Int) < (ns : Int) := by omega
     have gk2 : (k : Int) < (na : Int) := by omega
     have hsz1 := hW1b.out.size
     have e0' := e0
     rw [hW1] at e0'
     obtain ⟨q0, q1, q2, q3⟩ := blkS4 (HXr.out.alloc (.cells #[.int .i64 (s : Int), .slice A1' os.length c1'] 97))
     by_cases h3 : x0 = 3
     ·subst h3
      have Hs := Lib.hid (show regK m VS (k + 1) = (regK m VS k).set s ((evF os VS (mskN x1) : Nat) : Int) by
       rw [regK_succ VS hx]
       unfold regA
       rw [if_pos (kindAt_get hxs), widAt_get hxs]
       simp)
      have hVb : ∀ y ∈ VS, y ≤ 15 := wb_bd HF.out (by rw [Hvl.out, Hn.out.1]) Hwb.out
      obtain ⟨hob, hev⟩ := ev_asg HF.out hx VS (mskN x1)
      have hvl2 : VS.length = m.1.length := by rw [Hvl.out, Hn.out.1]
      rw [← hvl2] at hob
      have hbs : ad.block < W1.heap.size := by have := hS _ hab; have := Hbw.out.size; omega
      have hops : RepB W1.drew W1.drew.heap.size (.slice A1' os.length c1') (fOpS os) := (hro.under (B := wr.heap.size) (fun b hb => by have := hS b hb; have := Hbw.out.size; omega) hW1b.out).drew.mono (fun b hb => by have := hS b hb; have := Hbw.out.size; show b < W1.heap.size; omega)
      have hvals : RepB W1.drew W1.drew.heap.size (.slice Av ns cv) (fIntS (nI VS)) := (HQr.out.under (fun b hb => by have := hb.2; omega) hW1b.out).drew.mono (fun b hb => by have := hb.2; show b < W1.heap.size; omega)
      have HC := Lib.hid (s_l07Eval (mskN_is ⟨hw4a, hw4b⟩) hob hVb hev _ _ _ _ _ _ _ hops hvals)
      obtain ⟨ve, hve⟩ : ∃ ve, ve = evF os VS (mskN x1) := ⟨_, rfl⟩
      rw [← hve] at HC Hs
      clear hx hxs hxs' hro hom hVb hob hev hops hvals hve hvl2
      go_wp2_with fail
      rw [← hW1]
      clear hW1 y0 y1 y2 y3 q0 q1 q2 q3 t0 t1 e0 e0' e2
      have hgw : g1 < W1.heap.size := (HOw1.out.lt g1 rfl).2
      have hne0 : w.heap.size ≠ g1 := by omega
      have hne1 : wr.heap.size ≠ g1 := by have := (Hown.out.lt g1 rfl).2; omega
      have hne2 : ad.block ≠ g1 := by have := hS _ hab; omega
      rcases mskN_cases ⟨hw4a, hw4b⟩ with ⟨rfl, hM⟩ | ⟨rfl, hM⟩ | ⟨rfl, hM⟩ | ⟨rfl, hM⟩
      ·rw [hM] at HC
       refine wp_region_lexC (by kernel_rfl) (by kernel_rfl) (fun x => Only (fun b => b = g1) W1 x) ((Only.refl _ _).drew) (fun lexNE => ?_)
       obtain ⟨dm0, dm1, dm2, dm3⟩ := blkS4 HXm1.out
       obtain ⟨dx0, dx1⟩ := blkS2 HXb.out
       have cm0 := ocell (S := fun b => b = g1) dm0 HXm1.out.lt hne0
       have cx0 := ocell (S := fun b => b = g1) dx0 HXb.out.lt hne1
       have cx1 := ocell (S := fun b => b = g1) dx1 HXb.out.lt hne1
       have cw := ocell (S := fun b => b = g1) e1 (by rw [nxt_block]; exact hbs) (by rw [nxt_block]; exact hne2)
       clear dm0 dm1 dm2 dm3 dx0 dx1
       (repeat (first | (refine lex_r fun K hK => ?_; go_big_quiet_op; refine hK _ ?_; clear hK K) | (refine lex_k fun K hK => ?_; go_simp; refine hK _ ?_; clear hK K)))
       (refine lex_e fun K hK => ?_; go_big_op)
       refine (HC.out).mono ?_
       rintro e w8 ⟨rfl, hb8⟩
       have H8 := Lib.hid ((Below.refl W1.heap.size W1).drew.trans hb8)
       have HOw8 := Lib.hid (own_below HOw1.out H8.out (Nat.le_refl _))
       refine hK _ _ (Cls.mk' (Only.of_below H8.out _)) ?_
       clear hK K hb8
       (repeat (first | (refine lex_r fun K hK => ?_; go_big_quiet_op; refine hK _ ?_; clear hK K) | (refine lex_k fun K hK => ?_; go_simp; refine hK _ ?_; clear hK K)))
       (refine lex_nil ?_)
       clear lexNE cm0 cx0 cx1 cw
       obtain ⟨zo, hzo, hc⟩ := own_int_at HOw8.out hsn
       have hfz := HOw8.out.frozenAt s
       obtain ⟨u0, u1⟩ := blkS2 (HXb.out.below H8.out HXb.out.lt)
       obtain ⟨b0, b1⟩ := blkS2 (HBr1.out.below H8.out HBr1.out.lt)
       clear hzo
       go_wp2_with fail
       go_roundw
       case rel =>
        refine ⟨k + 1, by omega, by go_num, ?_, ?_⟩
        ·rw [Hs.out, ints_set]
         exact (HOw8.out.stored s (.int .i64 (ve : Int))).1
        ·exact (Ho1.out.trans (Only.of_below H8.out (fun b => b = g1))).setCell (p := ⟨g1, s, none⟩) (.inl rfl) _
       case measure => simp [intOf]; omega
      ·rw [hM] at HC
       refine wp_region_lexC (by kernel_rfl) (by kernel_rfl) (fun x => Only (fun b => b = g1) W1 x) ((Only.refl _ _).drew) (fun lexNE => ?_)
       obtain ⟨dm0, dm1, dm2, dm3⟩ := blkS4 HXm1.out
       obtain ⟨dx0, dx1⟩ := blkS2 HXb.out
       have cm0 := ocell (S := fun b => b = g1) dm0 HXm1.out.lt hne0
       have cx0 := ocell (S := fun b => b = g1) dx0 HXb.out.lt hne1
       have cx1 := ocell (S := fun b => b = g1) dx1 HXb.out.lt hne1
       have cw := ocell (S := fun b => b = g1) e1 (by rw [nxt_block]; exact hbs) (by rw [nxt_block]; exact hne2)
       clear dm0 dm1 dm2 dm3 dx0 dx1
       (repeat (first | (refine lex_r fun K hK => ?_; go_big_quiet_op; refine hK _ ?_; clear hK K) | (refine lex_k fun K hK => ?_; go_simp; refine hK _ ?_; clear hK K)))
       (refine lex_e fun K hK => ?_; go_big_op)
       refine (HC.out).mono ?_
       rintro e w8 ⟨rfl, hb8⟩
       have H8 := Lib.hid ((Below.refl W1.heap.size W1).drew.trans hb8)
       have HOw8 := Lib.hid (own_below HOw1.out H8.out (Nat.le_refl _))
       refine hK _ _ (Cls.mk' (Only.of_below H8.out _)) ?_
       clear hK K hb8
       (repeat (first | (refine lex_r fun K hK => ?_; go_big_quiet_op; refine hK _ ?_; clear hK K) | (refine lex_k fun K hK => ?_; go_simp; refine hK _ ?_; clear hK K)))
       (refine lex_nil ?_)
       clear lexNE cm0 cx0 cx1 cw
       obtain ⟨zo, hzo, hc⟩ := own_int_at HOw8.out hsn
       have hfz := HOw8.out.frozenAt s
       obtain ⟨u0, u1⟩ := blkS2 (HXb.out.below H8.out HXb.out.lt)
       obtain ⟨b0, b1⟩ := blkS2 (HBr1.out.below H8.out HBr1.out.lt)
       clear hzo
       go_wp2_with fail
       go_roundw
       case rel =>
        refine ⟨k + 1, by omega, by go_num, ?_, ?_⟩
        ·rw [Hs.out, ints_set]
         exact (HOw8.out.stored s (.int .i64 (ve : Int))).1
        ·exact (Ho1.out.trans (Only.of_below H8.out (fun b => b = g1))).setCell (p := ⟨g1, s, none⟩) (.inl rfl) _
       case measure => simp [intOf]; omega
      ·rw [hM] at HC
       refine wp_region_lexC (by kernel_rfl) (by kernel_rfl) (fun x => Only (fun b => b = g1) W1 x) ((Only.refl _ _).drew) (fun lexNE => ?_)
       obtain ⟨dm0, dm1, dm2, dm3⟩ := blkS4 HXm1.out
       obtain ⟨dx0, dx1⟩ := blkS2 HXb.out
       have cm0 := ocell (S := fun b => b = g1) dm0 HXm1.out.lt hne0
       have cx0 := ocell (S := fun b => b = g1) dx0 HXb.out.lt hne1
       have cx1 := ocell (S := fun b => b = g1) dx1 HXb.out.lt hne1
       have cw := ocell (S := fun b => b = g1) e1 (by rw [nxt_block]; exact hbs) (by rw [nxt_block]; exact hne2)
       clear dm0 dm1 dm2 dm3 dx0 dx1
       (repeat (first | (refine lex_r fun K hK => ?_; go_big_quiet_op; refine hK _ ?_; clear hK K) | (refine lex_k fun K hK => ?_; go_simp; refine hK _ ?_; clear hK K)))
       (refine lex_e fun K hK => ?_; go_big_op)
       refine (HC.out).mono ?_
       rintro e w8 ⟨rfl, hb8⟩
       have H8 := Lib.hid ((Below.refl W1.heap.size W1).drew.trans hb8)
       have HOw8 := Lib.hid (own_below HOw1.out H8.out (Nat.le_refl _))
       refine hK _ _ (Cls.mk' (Only.of_below H8.out _)) ?_
       clear hK K hb8
       (repeat (first | (refine lex_r fun K hK => ?_; go_big_quiet_op; refine hK _ ?_; clear hK K) | (refine lex_k fun K hK => ?_; go_simp; refine hK _ ?_; clear hK K)))
       (refine lex_nil ?_)
       clear lexNE cm0 cx0 cx1 cw
       obtain ⟨zo, hzo, hc⟩ := own_int_at HOw8.out hsn
       have hfz := HOw8.out.frozenAt s
       obtain ⟨u0, u1⟩ := blkS2 (HXb.out.below H8.out HXb.out.lt)
       obtain ⟨b0, b1⟩ := blkS2 (HBr1.out.below H8.out HBr1.out.lt)
       clear hzo
       go_wp2_with fail
       go_roundw
       case rel =>
        refine ⟨k + 1, by omega, by go_num, ?_, ?_⟩
        ·rw [Hs.out, ints_set]
         exact (HOw8.out.stored s (.int .i64 (ve : Int))).1
        ·exact (Ho1.out.trans (Only.of_below H8.out (fun b => b = g1))).setCell (p := ⟨g1, s, none⟩) (.inl rfl) _
       case measure => simp [intOf]; omega
      ·rw [hM] at HC
       refine wp_region_lexC (by kernel_rfl) (by kernel_rfl) (fun x => Only (fun b => b = g1) W1 x) ((Only.refl _ _).drew) (fun lexNE => ?_)
       obtain ⟨dm0, dm1, dm2, dm3⟩ := blkS4 HXm1.out
       obtain ⟨dx0, dx1⟩ := blkS2 HXb.out
       have cm0 := ocell (S := fun b => b = g1) dm0 HXm1.out.lt hne0
       have cx0 := ocell (S := fun b => b = g1) dx0 HXb.out.lt hne1
       have cx1 := ocell (S := fun b => b = g1) dx1 HXb.out.lt hne1
       have cw := ocell (S := fun b => b = g1) e1 (by rw [nxt_block]; exact hbs) (by rw [nxt_block]; exact hne2)
       clear dm0 dm1 dm2 dm3 dx0 dx1
       (repeat (first | (refine lex_r fun K hK => ?_; go_big_quiet_op; refine hK _ ?_; clear hK K) | (refine lex_k fun K hK => ?_; go_simp; refine hK _ ?_; clear hK K)))
       (refine lex_e fun K hK => ?_; go_big_op)
       refine (HC.out).mono ?_
       rintro e w8 ⟨rfl, hb8⟩
       have H8 := Lib.hid ((Below.refl W1.heap.size W1).drew.trans hb8)
       have HOw8 := Lib.hid (own_below HOw1.out H8.out (Nat.le_refl _))
       refine hK _ _ (Cls.mk' (Only.of_below H8.out _)) ?_
       clear hK K hb8
       (repeat (first | (refine lex_r fun K hK => ?_; go_big_quiet_op; refine hK _ ?_; clear hK K) | (refine lex_k fun K hK => ?_; go_simp; refine hK _ ?_; clear hK K)))
       (refine lex_nil ?_)
       clear lexNE cm0 cx0 cx1 cw
       obtain ⟨zo, hzo, hc⟩ := own_int_at HOw8.out hsn
       have hfz := HOw8.out.frozenAt s
       obtain ⟨u0, u1⟩ := blkS2 (HXb.out.below H8.out HXb.out.lt)
       obtain ⟨b0, b1⟩ := blkS2 (HBr1.out.below H8.out HBr1.out.lt)
       clear hzo
       go_wp2_with fail
       go_roundw
       case rel =>
        refine ⟨k + 1, by omega, by go_num, ?_, ?_⟩
        ·rw [Hs.out, ints_set]
         exact (HOw8.out.stored s (.int .i64 (ve : Int))).1
        ·exact (Ho1.out.trans (Only.of_below H8.out (fun b => b = g1))).setCell (p := ⟨g1, s, none⟩) (.inl rfl) _
       case measure => simp [intOf]; omega
     ·have q3 : (x0 == 3) = false := by simpa using h3
      have Hs := Lib.hid (show regK m VS (k + 1) = regK m VS k by
       rw [regK_succ VS hx]
       unfold regA
       rw [if_neg (by rw [kindAt_get hxs]; exact h3)])
      clear h3 hx hxs hxs' hro hom
      go_wp2_with fail
      rw [← hW1]
      go_roundw
      case rel => exact ⟨k + 1, by omega, by go_num, by rw [Hs.out]; exact HOw1.out, Ho1.out⟩
      case measure => simp [intOf]; omega
    ·have hge : (na : Int) ≤ (k : Int) := by omega
     have hkn : k = na := by omega
     have HE := Lib.hid (show wr.ownsRow w3.heap.size 3 1 (.slice (some ⟨g1, 0, none⟩) ns ns) ns (ints (mvK m VS st.2 0)) by
      have h1 := Hown.out
      rw [hkn, ← Hn.out.2.1] at h1
      exact h1)
     have HE2 := Lib.hid (show wr.ownsRow w3.heap.size 3 1 (.slice (some ⟨g2, 0, none⟩) nw c2') nw (ints (mwK m VS st.2 0)) from own_keep HO2'.out (fun g hg => Ho.out.block g (by exact (HO2'.out.lt g hg).2) (fun hc => by have hg : g2 = g := (by injection hg); have hc : g = g1 := hc; omega)))
     have Ho2 := Lib.hid (Ho.out.more (S' := fun b => b = g1 ∨ b = g2) (fun b hb => .inl hb))
     clear hkn
     go_wp2_with fail
     clear y0 y1 y2 y3 hge
     go_loopw [15, 16] (fun iv _ wr => ∃ k : Nat, k ≤ nm ∧ iv = .int .i64 k ∧ wr.ownsRow w3.heap.size 3 1 (.slice (some ⟨g1, 0, none⟩) ns ns) ns (ints (mvK m VS st.2 k)) ∧ wr.ownsRow w3.heap.size 3 1 (.slice (some ⟨g2, 0, none⟩) nw c2') nw (ints (mwK m VS st.2 k)) ∧ Only (fun b => b = g1 ∨ b = g2) wc wr) (fun iv _ _ => nm - (intOf iv).toNat)
     case atStart => exact ⟨0, Nat.zero_le _, rfl, HE.out, HE2.out, Ho2.out⟩
     case round =>
      clear HE HE2 Ho2 Ho Hown hsz Hbr Hbw HXr HSr HRr HBr HOr HQr gk
      obtain ⟨k, hk, rfl, hown, hown2, ho⟩ := hrel
      have hsz := ho.size
      have Hbr := Lib.hid (HBc.out.trans (ho.below (B := w3.heap.size) (by omega) (fun b hb => by omega)))
      have Hbw := Lib.hid (HB3.out.trans (Hbr.out.mono (by omega)))
      have HXr := Lib.hid (Only.blk ho HX0'.out (by omega))
      have HSr := Lib.hid (Only.blk ho HS0'.out (by omega))
      have HRr := Lib.hid (Only.blk ho HR0'.out (by omega))
      have HBr := Lib.hid (Only.blk ho HBK.out (by omega))
      have HOr := Lib.hid (own_keep HOO.out (fun g hg => ho.block g (HOO.out.lt g hg).2 (fun hc => by have hg : U0.heap.size = g := (by injection hg); omega)))
      have HQr := Lib.hid (HQc.out.keep (w' := wr) (fun p hp => ho.cell (by have := hp.2; omega) (fun hc => by have h1 : w2.heap.size ≤ p.block := hp.1; have h2 := hp.2; omega)))
      obtain ⟨y0, y1, y2, y3⟩ := blkS4 HXr.out
      have gk : (0 : Int) ≤ (k : Int) := by omega
      have Ho := Lib.hid ho
      have Hown := Lib.hid hown
      have Hown2 := Lib.hid hown2
      clear ho hown hown2
      by_cases hlt : k < nm
      ·obtain ⟨ad2, m0, m1, m2, m3, rfl, hab2, hx, t0, t1, t2, t3⟩ := fMemS_row (HMe.out.under hS Hbw.out) hlt
       obtain ⟨p, q, r, s, ⟨rfl, rfl, rfl, rfl⟩, ⟨hp, hq, hr, hs⟩, vp, vq, vr, ⟨hvp, hvq, hvr⟩, hp3, hcell⟩ := mem_facts HF.out hx (by rw [Hvl.out, Hn.out.1]) Hwb.out
       rw [Hn.out.1] at hp hq hr hs
       obtain ⟨W1, hW1⟩ : ∃ W1, W1 = wr.alloc (.cells #[.int .i64 (p : Int), .int .i64 (q : Int), .int .i64 (r : Int), .int .i64 (s : Int)] 103) := ⟨_, rfl⟩
       have hW1b := Lib.hid (show Below wr.heap.size wr W1 by rw [hW1]; exact (Below.refl _ _).alloc (Nat.le_refl _) _)
       have hBw1 := Lib.hid (Hbw.out.trans (hW1b.out.mono (by omega)))
       have hin1 := HQr.out.under (fun b hb => by have := hb.2; omega) hW1b.out
       obtain ⟨adv, xp, rfl, habv, hxp, ep⟩ := rep_nat_at hin1 hp
       obtain ⟨adv', xq, hA, _, hxq, eq⟩ := rep_nat_at hin1 hq
       obtain rfl : adv = adv' := by injection hA
       obtain ⟨adv', xr, hA, _, hxr, er⟩ := rep_nat_at hin1 hr
       obtain rfl : adv = adv' := by injection hA
       obtain rfl : vp = xp := by rw [hxp] at hvp; injection hvp with h1; exact h1.symm
       obtain rfl : vq = xq := by rw [hxq] at hvq; injection hvq with h1; exact h1.symm
       obtain rfl : vr = xr := by rw [hxr] at hvr; injection hvr with h1; exact h1.symm
       obtain ⟨cn, hcn⟩ : ∃ cn, cn = 4 * k + vp := ⟨_, rfl⟩
       have hcnw : cn < nw := by have := Hwl.out; omega
       obtain ⟨adw, xw, rfl, habw, hxw, ew⟩ := fIntS_row (HV1.out.under hS2 hBw1.out) hcnw
       have hcn' : 4 * (k : Int) + (vp : Int) = (cn : Int) := by omega
       have Hmv := Lib.hid (show mvK m VS st.2 (k + 1) = (mvK m VS st.2 k).set s xw by
        rw [mvK_succ]
        unfold mvA
        rw [memAt_get hx, hcell, ← hcn]
        simp [List.getD, hxw])
       have Hmw := Lib.hid (show mwK m VS st.2 (k + 1) = if vr = 1 then (mwK m VS st.2 k).set cn (vq : Int) else mwK m VS st.2 k by
        rw [mwK_succ]
        unfold mwA
        rw [memAt_get hx, hcell, ← hcn]
        simp [List.getD, hxr, hxq])
       have HOa := Lib.hid (show W1.ownsRow w3.heap.size 3 1 (.slice (some ⟨g1, 0, none⟩) ns ns) ns (ints (mvK m VS st.2 k)) by rw [hW1]; exact Hown.out.alloc _)
       have HOb := Lib.hid (show W1.ownsRow w3.heap.size 3 1 (.slice (some ⟨g2, 0, none⟩) nw c2') nw (ints (mwK m VS st.2 k)) by rw [hW1]; exact Hown2.out.alloc _)
       have Ho1 := Lib.hid (show Only (fun b => b = g1 ∨ b = g2) wc W1 by rw [hW1]; exact Ho.out.alloc _)
       have HXb := Lib.hid (show Blk W1 wr.heap.size 103 #[.int .i64 (p : Int), .int .i64 (q : Int), .int .i64 (r : Int), .int .i64 (s : Int)] by rw [hW1]; exact Blk.new _ _ _)
       have HSr1 := Lib.hid (HSr.out.below hW1b.out (by omega))
       have HBr1 := Lib.hid (HBr.out.below hW1b.out (by omega))
       have g1w : g1 < wr.heap.size := (Hown.out.lt g1 rfl).2
       have g2w : g2 < wr.heap.size := (Hown2.out.lt g2 rfl).2
       have hsz1 := hW1b.out.size
       have hbv : adv.block < w3.heap.size := habv.2
       have hbv2 : w2.heap.size ≤ adv.block := habv.1
       have hbw : adw.block < w.heap.size := hS2 _ habw
       have i1 : (0 : Int) ≤ (p : Int) := by omega
       have i2 : (p : Int) < (ns : Int) := by omega
       have i3 : (0 : Int) ≤ (s : Int) := by omega
       have i4 : (s : Int) < (ns : Int) := by omega
       have i5 : (0 : Int) ≤ (r : Int) := by omega
       have i6 : (r : Int) < (ns : Int) := by omega
       have i7 : (0 : Int) ≤ (q : Int) := by omega
       have i8 : (q : Int) < (ns : Int) := by omega
       have j1 : (0 : Int) ≤ (cn : Int) := by omega
       have j2 : (cn : Int) < (nw : Int) := by omega
       have gk2 : (k : Int) < (nm : Int) := by omega
       have Hcn := Lib.hid hcn
       have Hcn' := Lib.hid hcn'
       clear hx hxp hxq hxr hxw hvp hvq hvr hcell hA hcn hcn' hin1
       go_wp2_with fail
       rw [← hW1]
       clear hW1 y0 y1 y2 y3 t0 t1 t2 t3
       obtain ⟨zo, hzo, hc⟩ := own_int_at HOa.out hs
       have hfz := HOa.out.frozenAt s
       refine wp_region_lexC (by kernel_rfl) (by kernel_rfl) (fun x => Below W1.heap.size W1 x) ((Below.refl _ _).drew) (fun lexNE => ?_)
       obtain ⟨cb0, cb1⟩ := bwS2 HBr1.out HBr1.out.lt
       obtain ⟨cs0, cs1⟩ := bwS2 HSr1.out HSr1.out.lt
       obtain ⟨cx0, cx1, cx2, cx3⟩ := bwS4 HXb.out HXb.out.lt
       have cw := wcell (B := W1.heap.size) ew (by rw [block_of_add]; omega)
       have cp := wcell (B := W1.heap.size) ep (by rw [block_of_add]; omega)
       have hcn' := Hcn'.out
       (repeat (first | (refine lex_r fun K hK => ?_; go_big_quiet_op; refine hK _ ?_; clear hK K) | (refine lex_k fun K hK => ?_; go_simp; refine hK _ ?_; clear hK K)))
       (refine lex_l fun K hK => ?_; go_big_op)
       (refine hK _ _ ?_; clear hK K)
       clear lexNE cb0 cb1 cs0 cs1 cx0 cx1 cx2 cx3 cw cp hzo hc hfz hcn'
       obtain ⟨W2, hW2⟩ : ∃ W2, W2 = (W1.setCell ⟨g1, s, none⟩ (.int .i64 xw)).drew := ⟨_, rfl⟩
       have hOn := Lib.hid (show Only (fun b => b = g1) W1 W2 by rw [hW2]; exact ((Only.refl (fun b => b = g1) _).setCell (p := ⟨g1, s, none⟩) (.inl rfl) _).drew)
       have HOa2 := Lib.hid (show W2.ownsRow w3.heap.size 3 1 (.slice (some ⟨g1, 0, none⟩) ns ns) ns (ints (mvK m VS st.2 (k + 1))) by rw [hW2, Hmv.out, ints_set]; exact own_drew (HOa.out.stored s (.int .i64 xw)).1)
       have HOb2 := Lib.hid (show W2.ownsRow w3.heap.size 3 1 (.slice (some ⟨g2, 0, none⟩) nw c2') nw (ints (mwK m VS st.2 k)) from own_keep HOb.out (fun g hg => hOn.out.block g (HOb.out.lt g hg).2 (fun hc => by have hg : g2 = g := (by injection hg); have hc : g = g1 := hc; omega)))
       have Ho2 := Lib.hid (Ho1.out.trans (hOn.out.more (S' := fun b => b = g1 ∨ b = g2) (fun b hb => .inl hb)))
       have HXb2 := Lib.hid (Only.blk hOn.out HXb.out (by omega))
       have HBr2 := Lib.hid (Only.blk hOn.out HBr1.out (by omega))
       have hsz2 := hOn.out.size
       have ep2 := (hOn.out.cell (p := adv.add p) (by rw [block_of_add]; omega) (by rw [block_of_add]; omega)).trans ep
       have er2 := (hOn.out.cell (p := adv.add r) (by rw [block_of_add]; omega) (by rw [block_of_add]; omega)).trans er
       have eq2 := (hOn.out.cell (p := adv.add q) (by rw [block_of_add]; omega) (by rw [block_of_add]; omega)).trans eq
       rw [← hW2]
       clear hW2 er eq ew ep
       obtain ⟨u0, u1, u2, u3⟩ := blkS4 HXb2.out
       by_cases hv1 : vr = 1
       ·subst hv1
        have er3 : W2.cell? (adv.add r) = some (.int .i64 1) := er2
        clear er2
        go_wp2_with fail
        clear u0 u1 u2 u3 er3
        obtain ⟨zo, hzo, hc⟩ := own_int_at HOb2.out hcnw
        have hfz := HOb2.out.frozenAt cn
        refine wp_region_lexC (by kernel_rfl) (by kernel_rfl) (fun x => Below W2.heap.size W2 x) ((Below.refl _ _).drew) (fun lexNE => ?_)
        obtain ⟨cb0, cb1⟩ := bwS2 HBr2.out HBr2.out.lt
        obtain ⟨cx0, cx1, cx2, cx3⟩ := bwS4 HXb2.out HXb2.out.lt
        have cw := wcell (B := W2.heap.size) eq2 (by rw [block_of_add]; omega)
        have cp := wcell (B := W2.heap.size) ep2 (by rw [block_of_add]; omega)
        have hcn' := Hcn'.out
        (repeat (first | (refine lex_r fun K hK => ?_; go_big_quiet_op; refine hK _ ?_; clear hK K) | (refine lex_k fun K hK => ?_; go_simp; refine hK _ ?_; clear hK K)))
        (refine lex_l fun K hK => ?_; go_big_op)
        (refine hK _ _ ?_; clear hK K)
        clear lexNE cb0 cb1 cx0 cx1 cx2 cx3 cw cp hzo hc hfz hcn'
        go_wp2_with fail
        go_roundw
        case rel =>
         refine ⟨k + 1, by omega, by go_num, ?_, ?_, (Ho2.out.setCell (p := ⟨g2, cn, none⟩) (.inl (.inr rfl)) _).drew⟩
         ·exact own_drew (own_keep HOa2.out (fun g hg => Below.heap_setCell _ ⟨g2, cn, none⟩ _ g (by have hg : g1 = g := (by injection hg); show g ≠ g2; omega)))
         ·rw [Hmw.out, if_pos trivial, ints_set]
          exact own_drew (HOb2.out.stored cn (.int .i64 (vq : Int))).1
        case measure => simp [intOf]; omega
       ·have q1 : ((vr : Int) == 1) = false := by simpa using (fun h => hv1 (by omega))
        have Hm2 := Lib.hid (show mwK m VS st.2 (k + 1) = mwK m VS st.2 k by rw [Hmw.out, if_neg hv1])
        clear hv1
        go_wp2_with fail
        go_roundw
        case rel => exact ⟨k + 1, by omega, by go_num, HOa2.out, by rw [Hm2.out]; exact HOb2.out, Ho2.out⟩
        case measure => simp [intOf]; omega
      ·have hge : (nm : Int) ≤ (k : Int) := by omega
       have hkn : k = nm := by omega
       obtain ⟨wl, hwl⟩ : ∃ wl, wl = wr := ⟨_, rfl⟩
       subst hwl
       have HEa := Lib.hid (show wl.ownsRow w3.heap.size 3 1 (.slice (some ⟨g1, 0, none⟩) ns ns) ns (ints (nextN m st.2 VS).1) by have h1 := Hown.out; rw [hkn, ← Hn.out.2.2.2] at h1; exact h1)
       have HEb := Lib.hid (show wl.ownsRow w3.heap.size 3 1 (.slice (some ⟨g2, 0, none⟩) nw c2') nw (ints (nextN m st.2 VS).2) by have h1 := Hown2.out; rw [hkn, ← Hn.out.2.2.2] at h1; exact h1)
       have l1 := (HEa.out.lt g1 rfl).2
       have l2 := (HEb.out.lt g2 rfl).2
       have hlb := HBr.out.lt
       have hHOr := HOr.out
       have HBl := Lib.hid Hbw.out
       have HXl := Lib.hid HXr.out
       have HRl := Lib.hid HRr.out
       have HKl := Lib.hid HBr.out
       have HQl := Lib.hid HQr.out
       clear hkn
       go_wp2_with fail
       clear y0 y1 y2 y3 hge Ho Hown Hown2 Hbr Hbw HXr HSr HRr HBr HOr HQr
       go_loopw [8, 17] (fun ov iv wr => ∃ k : Nat, k ≤ ns ∧ iv = .int .i64 k ∧ wr.ownsRow U0.heap.size 3 1 ov (outK m VS k).length (ints (outK m VS k)) ∧ (∀ g, ov.ownBlock = some g → g = U0.heap.size ∨ wl.heap.size ≤ g) ∧ Only (fun b => b = U0.heap.size) wl wr) (fun _ iv _ => ns - (intOf iv).toNat)
       case atStart => exact ⟨0, Nat.zero_le _, rfl, hHOr, fun g hg => .inl (by have hg : U0.heap.size = g := (by injection hg); exact hg.symm), Only.refl _ _⟩
       case round =>
        clear hHOr gk
        obtain ⟨k, hk, rfl, hown, hob, ho⟩ := hrel
        have hszl := hsz
        have hsz := ho.size
        have Hbw := Lib.hid (HBl.out.trans (ho.below (B := w.heap.size) (by omega) (fun b hb => by omega)))
        have HXr := Lib.hid (Only.blk ho HXl.out (by omega))
        have HQr := Lib.hid (HQl.out.keep (w' := wr) (fun p hp => ho.cell (by have := hp.2; omega) (fun hc => by have h1 : w2.heap.size ≤ p.block := hp.1; have h2 := hp.2; omega)))
        obtain ⟨y0, y1, y2, y3⟩ := blkS4 HXr.out
        have gk : (0 : Int) ≤ (k : Int) := by omega
        obtain ⟨L, hL⟩ : ∃ L, L = outK m VS k := ⟨_, rfl⟩
        have hlk := outK_len m VS k
        rw [← hL] at hown hlk
        obtain ⟨A, c, rfl, _, _, _⟩ := own_form hown
        have HL := Lib.hid hL
        have Hown := Lib.hid hown
        have Hob := Lib.hid hob
        have Ho := Lib.hid ho
        clear hown hob ho hL
        by_cases hlt : k < ns
        ·obtain ⟨ad, x0, x1, x2, rfl, hab, hx, e0, e1, e2⟩ := fSignalS_row (HSg.out.under hS Hbw.out) hlt
         have g2' : (k : Int) < (ns : Int) := by omega
         by_cases h1 : x0 = 1
         ·subst h1
          obtain ⟨adv, xv, rfl, habv, hxv, ev⟩ := rep_nat_at HQr.out hlt
          have Hs := Lib.hid (show outK m VS (k + 1) = L ++ [(xv : Int)] by rw [outK_yes (kindAt_get hx), HL.out]; simp [List.getD, hxv])
          clear hx hxv
          have hz0 := hz0'
          have hz1 := hz1'
          have hz2 := hz2'
          go_wp2_with (at_builtin; refine wpList_append_any _ rfl _ _ 28 rfl (U0.heap.size) 3 i0 (.int .i64 0) 1 8 Try.underlying28 hi hz0 hz1 hz2 rfl (by decide) _ _ _ rfl (Hown.out.alloc _) _ _ 1 1 _ rfl (reads_new _ _ 1 1 rfl) (by intro u hu; simp at hu; first | (subst hu; rfl) | (rcases hu with rfl | rfl <;> rfl) | (rcases hu with rfl | rfl | rfl <;> rfl)) (by unfold maxLen; omega) (by omega) (by (try simp) <;> (try omega)) ?_; intro v8 w8 hown8 hgrow8 hblk8)
          have Ho8 := Lib.hid (show Only (fun b => b = U0.heap.size) wl w8 from Only.grown (Ho.out.alloc _) hgrow8 (fun g hg => Hob.out g hg))
          have Hob8 := Lib.hid (show ∀ g, v8.ownBlock = some g → g = U0.heap.size ∨ wl.heap.size ≤ g from fun g hg => by
           rcases hblk8 with h1 | h1
           ·exact Hob.out g (h1 ▸ hg)
           ·rw [hg] at h1
            injection h1 with h1
            simp at h1
            omega)
          have Hown8 := Lib.hid hown8
          clear hown8 hgrow8 hblk8
          go_wp2_with fail
          go_roundw
          case rel => exact ⟨k + 1, by omega, by go_num, by rw [Hs.out, List.length_append, ints_app]; exact Hown8.out, Hob8.out, Ho8.out⟩
          case measure => simp [intOf]; omega
         ·have q1 : (x0 == 1) = false := by simpa using h1
          have Hs := Lib.hid (show outK m VS (k + 1) = L by rw [outK_no (by rw [kindAt_get hx]; exact h1), HL.out])
          clear h1 hx
          go_wp2_with fail
          go_roundw
          case rel => exact ⟨k + 1, by omega, by go_num, by rw [Hs.out]; exact Hown.out, Hob.out, Ho.out⟩
          case measure => simp [intOf]; omega
        ·have hkn : k = ns := by omega
         have HE := Lib.hid (show L = outV m VS by rw [HL.out, hkn, ← Hn.out.1]; rfl)
         have hge : (ns : Int) ≤ (k : Int) := by omega
         have HRr := Lib.hid (Only.blk Ho.out HRl.out (by omega))
         have HKr := Lib.hid (Only.blk Ho.out HKl.out (by omega))
         obtain ⟨r0, r1⟩ := blkS2 HRr.out
         obtain ⟨z0, z1⟩ := blkS2 HKr.out
         have f0 := HRr.out.frozen 0
         have f1 := HRr.out.frozen 1
         clear hkn
         go_wp2_with fail
         obtain ⟨wf, hwf⟩ : ∃ wf, wf = ((wr.setCell ⟨w.heap.size + 1 + 1, 0, none⟩ (.slice (some ⟨g1, 0, none⟩) ns ns)).setCell ⟨w.heap.size + 1 + 1, 1, none⟩ (.slice (some ⟨g2, 0, none⟩) nw c2')) := ⟨_, rfl⟩
         have hRf : Blk wf (w.heap.size + 1 + 1) 33 #[.slice (some ⟨g1, 0, none⟩) ns ns, .slice (some ⟨g2, 0, none⟩) nw c2'] := by rw [hwf]; exact blk_two HRr.out
         have hk2 : ∀ b, b ≠ w.heap.size + 1 + 1 → wf.heap[b]? = wr.heap[b]? := fun b hb => by
          rw [hwf]
          exact (Below.heap_setCell _ ⟨w.heap.size + 1 + 1, 1, none⟩ _ b hb).trans (Below.heap_setCell _ ⟨w.heap.size + 1 + 1, 0, none⟩ _ b hb)
         have hO1 := own_keep (own_keep HEa.out (w' := wr) (fun g hg => Ho.out.block g (by have hg : g1 = g := (by injection hg); omega) (by have hg : g1 = g := (by injection hg); omega))) (w' := wf) (fun g hg => hk2 g (by have hg : g1 = g := (by injection hg); omega))
         have hO2 := own_keep (own_keep HEb.out (w' := wr) (fun g hg => Ho.out.block g (by have hg : g2 = g := (by injection hg); omega) (by have hg : g2 = g := (by injection hg); omega))) (w' := wf) (fun g hg => hk2 g (by have hg : g2 = g := (by injection hg); omega))
         have hO3 := own_keep Hown.out (w' := wf) (fun g hg => hk2 g (by have := (Hown.out.lt g hg).1; omega))
         have hsf : wf.heap.size = wr.heap.size := by rw [hwf]; simp [World.setCell]
         have hBf : Below w.heap.size w wf := by rw [hwf]; exact (Hbw.out.setCell (by simp; omega) _).setCell (by simp; omega) _
         obtain ⟨s0, s1⟩ := blkS2 hRf
         rw [← hwf]
         refine bodyPost_ret (v := .tuple #[.agg #[.slice (some ⟨g1, 0, none⟩) ns ns, .slice (some ⟨g2, 0, none⟩) nw c2'], .slice A L.length c]) (by simp [results, Try.results10, go_sem, s0, s1]) rfl ⟨_, _, fun b => b = g1 ∨ b = g2, fun b => (Value.slice A L.length c).ownBlock = some b, rfl, ?_, ?_, ?_, ?_, ?_, hBf⟩
         ·rintro b (rfl | rfl)
          ·exact ⟨by omega, by omega⟩
          ·exact ⟨by omega, by omega⟩
         ·intro b hb
          have h1 := Hown.out.lt b hb
          exact ⟨by omega, by omega⟩
         ·intro b h1 h2
          have h3 := Hob.out b h2
          omega
         ·unfold stpS
          rw [Hok.out, if_pos rfl, ← HVS.out]
          refine ⟨_, _, fun j b => (j = 0 ∧ b = g1) ∨ (j = 1 ∧ b = g2), rfl, ?_, ?_, ?_, ?_⟩
          ·rintro j b (⟨_, rfl⟩ | ⟨_, rfl⟩)
           ·exact .inl rfl
           ·exact .inr rfl
          ·rintro i j b (⟨rfl, rfl⟩ | ⟨rfl, rfl⟩) (⟨rfl, h2⟩ | ⟨rfl, h2⟩)
           ·rfl
           ·exact absurd h2 hd1
           ·exact absurd h2.symm hd1
           ·rfl
          ·exact sep_ints (by unfold maxLen; omega) hO1 (fun g hg => .inl ⟨rfl, by have hg : g1 = g := (by injection hg); exact hg.symm⟩)
          ·exact sep_ints (by unfold maxLen; omega) hO2 (fun g hg => .inr ⟨rfl, by have hg : g2 = g := (by injection hg); exact hg.symm⟩)
         ·unfold stpO
          rw [Hok.out, if_pos rfl, ← HVS.out, ← HE.out]
          exact sep_ints (by unfold maxLen; omega) hO3 (fun g hg => hg)
end Go.Proofs.Ytlkjdhjeecogjaa
