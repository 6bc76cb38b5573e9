/- Contracts: the outputs of all cycles: the reference's function. -/
import Derived.Test.YtjkdgedgfkgjdaaGreatTrcT
import Derived.Test.YtjkdgedgfkgjdaaGreatRunA
import Derived.Outline
namespace Go.Proofs.YtjkdgedgfkgjdaaGreat
open Go.RowKit

theorem run_no {m : TModule} {ins : List (List Int)} (h : runB m ins = false) : runL m ins = [] := by unfold runL; rw [h]; rfl
theorem run_yes {m : TModule} {ins : List (List Int)} (h : runB m ins = true) : runL m ins = runK m ins ins.length := by unfold runL; rw [h]; rfl
theorem stp_yesO {m : TModule} {st : TWordState} {ins : List Int} (h : sigOk m st ins = true) : stpO m st ins = outV m (sigN m st ins) := by
 unfold stpO
 rw [h]
 rfl
set_option maxRecDepth 100000 in
set_option maxHeartbeats 16000000 in
theorem s_FlatRun {w : World} {S S4 : Nat → Prop} {v : Value} {Ai : Option Addr} {nx ci : Nat} {m : TModule} {ins : List (List Int)} (hz : sModule m ≤ 1048576)
  (h : RModule w S v m) (hS : ∀ b, S b → b < w.heap.size) (hin : Rep w S4 (.slice Ai nx ci) (fIntSS ins)) (hS4 : ∀ b, S4 b → b < w.heap.size) :
  Calls Tryz.prog 6 #[v, .slice Ai nx ci] w fun e w' => ∃ v', e = .returned v' ∧ Sep w' (New w w') v' (fIntSS (runL m ins)) ∧ Below w.heap.size w w' := by
 obtain ⟨i0, hi, hz0, hz1, hz2⟩ := info_parts Tryz.infIntS
 have hnx := hin.len
 rw [List.length_map] at hnx
 have Hins := Lib.hid hin
 have Hnx := Lib.hid hnx
 clear hin
 obtain ⟨A0, c0, A1, c1, A2, c2, A3, c3, rfl, hSg, hAs, -, hMe, hm0, hm1, hm2, hm3⟩ := mod_open h
 obtain ⟨ns, hns⟩ : ∃ ns, m.1.length = ns := ⟨_, rfl⟩
 obtain ⟨na, hna⟩ : ∃ na, m.2.1.length = na := ⟨_, rfl⟩
 obtain ⟨ni, hni⟩ : ∃ ni, m.2.2.1.length = ni := ⟨_, rfl⟩
 obtain ⟨nm, hnm⟩ : ∃ nm, m.2.2.2.length = nm := ⟨_, rfl⟩
 rw [hns, hna, hni, hnm] at h ⊢
 rw [hns] at hSg hm0
 rw [hna] at hAs hm1
 rw [hni] at hm2
 rw [hnm] at hMe hm3
 unfold maxLen at hm0 hm1 hm2 hm3
 have Hn := Lib.hid (And.intro hns (And.intro hna (And.intro hni hnm)))
 have H := Lib.hid h
 have HSg := Lib.hid hSg
 have HAs := Lib.hid hAs
 have HMe := Lib.hid hMe
 have HB0 := Lib.hid ((Below.refl w.heap.size w).alloc (Nat.le_refl _) (.cells #[.slice A0 ns c0, .slice A1 na c1, .slice A2 ni c2, .slice A3 nm c3] 37))
 have HX0 := Lib.hid (Blk.new w 37 #[.slice A0 ns c0, .slice A1 na c1, .slice A2 ni c2, .slice A3 nm c3])
 clear hns hna hnm hni h hSg hAs hMe
 go_enter Tryz.func6, Tryz.ntmps6
 obtain ⟨y0, y1, y2, y3⟩ := blkS4 (HX0.out.alloc (.cells #[] 49))
 go_wp2_with fail
 obtain ⟨U0, hU0⟩ : ∃ U0, U0 = w.alloc (.cells #[.slice A0 ns c0, .slice A1 na c1, .slice A2 ni c2, .slice A3 nm c3] 37) := ⟨_, rfl⟩
 have hu0 : U0.heap.size = w.heap.size + 1 := by rw [hU0]; simp
 rw [← hU0] at HB0 HX0 ⊢
 obtain ⟨U1, hU1⟩ : ∃ U1, U1 = U0.alloc (.cells #[] 49) := ⟨_, rfl⟩
 have hu1 : U0.heap.size < U1.heap.size := by rw [hU1]; simp
 rw [← hU1, ← hu0]
 have HB1 := Lib.hid (show Below U0.heap.size U0 U1 by rw [hU1]; exact (Below.refl _ _).alloc (Nat.le_refl _) _)
 have HO1 := Lib.hid (show U1.ownsRow U0.heap.size 49 1 (.slice (some ⟨U0.heap.size, 0, none⟩) 0 0) 0 [] by rw [hU1]; exact World.ownsRow_made (base := U0.heap.size) (size := 1) (e := 49) U0 #[] 0 (Nat.le_refl _) (by unfold maxLen; omega) rfl)
 have Hu0 := Lib.hid hu0
 have hu0' : w.heap.size < U0.heap.size := by omega
 clear hU0 hU1 hu0 y0 y1 y2 y3
 refine (s_l07RunOk hz (RModule.under H.out hS (HB0.out.trans (HB1.out.mono (by omega)))) (fun b hb => by have := hS b hb; omega) (Hins.out.under hS4 (HB0.out.trans (HB1.out.mono (by omega)))) (fun b hb => by have := hS4 b hb; omega)).mono ?_
 rintro e w1 ⟨rfl, hb1⟩
 have HB2 := Lib.hid (HB1.out.trans (hb1.mono (by omega)))
 have HO2 := Lib.hid (own_below HO1.out hb1 (Nat.le_refl _))
 have zz1 := hb1.size
 clear hb1
 have HXM1 := Lib.hid (HX0.out.below HB2.out HX0.out.lt)
 cases hr : runB m ins with
 | false =>
  have HR := Lib.hid hr
  clear hr
  go_wp2_with fail
  go_ret
  refine ⟨_, rfl, ?_, HB0.out.trans (HB2.out.mono (by omega))⟩
  rw [run_no HR.out]
  exact sep_made2 HO2.out ⟨by omega, by omega⟩
 | true =>
  have HR := Lib.hid hr
  have HF := Lib.hid (runB_iff hr).1
  have h16 := (runB_iff hr).2.1
  clear hr
  obtain ⟨y0, y1, y2, y3⟩ := blkS4 HXM1.out
  go_wp2_with fail
  refine (s_FlatStart hz (RModule.under H.out hS (HB0.out.trans (HB2.out.mono (by omega)))) (fun b hb => by have := hS b hb; omega)).mono ?_
  rintro e w2 ⟨vs, rfl, hqs, hb2⟩
  obtain ⟨Q0, q0, d0, Q1, q1, d1, rfl⟩ := hqs.r.form
  have hst : startS m = startN m := by unfold startS; rw [HF.out]; rfl
  rw [hst] at hqs
  have HB3 := Lib.hid (HB2.out.trans (hb2.mono (by omega)))
  have HO3 := Lib.hid (own_below HO2.out hb2 (Nat.le_refl _))
  have HQs := Lib.hid hqs.r
  have zz2 := hb2.size
  obtain ⟨U2, hU2⟩ : ∃ U2, U2 = w2.alloc (.cells #[.slice Q0 q0 d0, .slice Q1 q1 d1] 52) := ⟨_, rfl⟩
  have HU2 := Lib.hid hU2
  have HW2 := Lib.hid (show Below w2.heap.size w2 U2 by rw [hU2]; exact (Below.refl _ _).alloc (Nat.le_refl _) _)
  have HXS2 := Lib.hid (show Blk U2 w2.heap.size 52 #[.slice Q0 q0 d0, .slice Q1 q1 d1] by rw [hU2]; exact Blk.new _ _ _)
  have hu2 : w2.heap.size < U2.heap.size := by rw [hU2]; simp
  have HBU2 := Lib.hid (HB3.out.trans (HW2.out.mono (by omega)))
  have HOU := Lib.hid (own_below HO3.out HW2.out (Nat.le_refl _))
  clear hqs hb2 y0 y1 y2 y3 hU2 hst
  go_wp2_with fail
  rw [← HU2.out]
  go_loopw [5, 7, 8, 9] (fun ov iv _ _ wr => ∃ (k : Nat) (xs : List Value) (s0 s1 : Value), k ≤ nx ∧ iv = .int .i64 k ∧ GrowI wr (fun b => b = U0.heap.size ∨ U2.heap.size ≤ b) 49 1 ov ((runK m ins k).map rIntS) xs ∧ Blk wr w2.heap.size 52 #[s0, s1] ∧ RWordState wr (fun b => b < wr.heap.size ∧ ov.ownBlock ≠ some b ∧ b ≠ w2.heap.size) (.agg #[s0, s1]) (cycS m ins k) ∧ Below U0.heap.size U0 wr ∧ U2.heap.size ≤ wr.heap.size) (fun _ iv _ _ _ => nx - (intOf iv).toNat)
  case atStart => exact ⟨0, [], _, _, Nat.zero_le _, rfl, GrowI.empty HOU.out (fun g hg => .inl (by have hg : U0.heap.size = g := (by injection hg); exact hg.symm)), HXS2.out, (RWordState.under HQs.out (fun b hb => hb.2) HW2.out).mono (fun b hb => ⟨by have := hb.2; omega, fun hg => by have hg : U0.heap.size = b := (by injection hg); have : w1.heap.size ≤ b := hb.1; omega, by have := hb.2; omega⟩), HBU2.out, Nat.le_refl _⟩
  case round =>
   obtain ⟨k, xs, s0, s1, hk, rfl, hgr, hbs, hst, hb, hu⟩ := hrel
   obtain ⟨S0, p0, e0, S1, p1, e1, hse⟩ := hst.form
   injection hse with hse
   injection hse with hse
   injection hse with hs0 hse
   injection hse with hs1 _
   subst hs0 hs1
   have Hb := Lib.hid hb
   have hsz := hb.size
   have Hbw := Lib.hid (HB0.out.trans (hb.mono (by omega)))
   have HXr := Lib.hid (HX0.out.below hb HX0.out.lt)
   have HSr := Lib.hid hbs
   have HSt := Lib.hid hst
   have HG := Lib.hid hgr
   have g1 : (0 : Int) ≤ (k : Int) := by omega
   obtain ⟨L, hL⟩ : ∃ L, L = (runK m ins k).map rIntS := ⟨_, rfl⟩
   have hLl : L.length = k := by rw [hL, List.length_map, runK_len]
   rw [← hL] at HG
   have HL := Lib.hid hL
   have hown := HG.out.own
   rw [hLl] at hown
   obtain ⟨A, c, rfl, _, _, _⟩ := own_form hown
   have Hown := Lib.hid hown
   clear hb hbs hst hgr hL hown
   by_cases hlt : k < nx
   ·obtain ⟨ad, x, v0, rfl, hab, hx, hr, ei⟩ := fIntSS_row (Hins.out.under hS4 Hbw.out) hlt
    obtain ⟨Ax, nl, cx, rfl⟩ := slv_of hr
    have g2 : (k : Int) < (nx : Int) := by omega
    have hxl := (runB_iff HR.out).2.2 x (List.mem_of_getElem? hx)
    have Hgd := Lib.hid (show ins.getD k [] = x by rw [List.getD_eq_getElem?_getD, hx]; rfl)
    have HWS := Lib.hid (cyc_ws (ins := ins) HF.out k)
    have HSO := Lib.hid (sig_yes HWS.out hxl)
    have Hr := Lib.hid hr
    have hgA : ∀ g, (Value.slice A k c).ownBlock = some g → (g = U0.heap.size ∨ U2.heap.size ≤ g) ∧ g < wr.heap.size := fun g hg => ⟨HG.out.ownI g hg, (Hown.out.lt g hg).2⟩
    have HgA := Lib.hid hgA
    have hai := hS4 _ hab
    have hslt := HSr.out.lt
    clear hx hr hxl hgA
    obtain ⟨VS, hVS⟩ : ∃ VS, VS = sigN m (cycS m ins k) x := ⟨_, rfl⟩
    have HVS := Lib.hid hVS
    have hcyc : cycV m ins k = VS := by unfold cycV; rw [Hgd.out, hVS]
    have HTS := Lib.hid (show (runK m ins (k + 1)).map rIntS = L ++ [rIntS (outV m VS)] by rw [runK_succ, List.map_append, ← HL.out, hcyc]; rfl)
    have HCS := Lib.hid (show cycS m ins (k + 1) = nextN m (cycS m ins k).2 VS by show nextN m (cycS m ins k).2 (sigN m (cycS m ins k) (ins.getD k [])) = _; rw [Hgd.out, hVS])
    clear hVS hcyc
    go_wp2_with fail
    go_cut [8, 9] from 18 to 38 (fun pv qv wc => ∃ (gx : Nat) (R0 : Option Addr) (r0 f0 : Nat) (R1 : Option Addr) (r1 f1 : Nat) (O0 : Option Addr) (o0 oc : Nat), pv = .pointer (some ⟨gx, 0, none⟩) ∧ qv = .slice O0 o0 oc ∧ (wr.heap.size ≤ gx ∧ gx < wc.heap.size) ∧ Blk wc gx 52 #[.slice R0 r0 f0, .slice R1 r1 f1] ∧ RWordState wc (fun b => (wr.heap.size ≤ b ∧ b < wc.heap.size) ∧ b ≠ gx) (.agg #[.slice R0 r0 f0, .slice R1 r1 f1]) (nextN m (cycS m ins k).2 VS) ∧ Sep wc (fun b => (wr.heap.size ≤ b ∧ b < wc.heap.size) ∧ b ≠ gx) (.slice O0 o0 oc) (fIntS (outV m VS)) ∧ Below wr.heap.size wr wc)
    case first =>
     refine wp_region_treeP (.node [] 6 10 (.leaf [0, 1, 2, 3, 4, 5, 6, 10, 7, 8, 9, 11, 12]) (.leaf [10, 0, 1, 2, 3, 4, 5, 6, 7, 8, 9, 11, 12])) (by kernel_rfl) (by kernel_rfl) (fun x => Below wr.heap.size wr x) ((Below.refl _ _).drew) (fun lexNE => ?_)
     simp only [LexT, ordOps, List.filterMap_cons, List.filterMap_nil, List.getElem?_cons_zero, List.getElem?_cons_succ]
     obtain ⟨cm0, cm1, cm2, cm3⟩ := bwS4 (B := wr.heap.size) HXr.out HXr.out.lt
     obtain ⟨cs0, cs1⟩ := bwS2 (B := wr.heap.size) HSr.out HSr.out.lt
     have ci := wcell (B := wr.heap.size) ei (by rw [block_of_add]; omega)
     obtain ⟨D, hD⟩ : ∃ D, D = wr.drew := ⟨_, rfl⟩
     rw [← hD]
     have zD : wr.heap.size ≤ D.heap.size := by rw [hD]; exact Nat.le_refl _
     have HA := Lib.hid (show Below wr.heap.size wr D by rw [hD]; exact (Below.refl _ _).drew)
     clear hD
     (refine lex_nil ?_)
     refine ⟨Cls.mk' HA.out, ?_, ?_⟩
     ·(repeat (first | (refine lex_r fun K hK => ?_; go_big_quiet_op; refine hK _ ?_; clear hK K) | (refine lex_k fun K hK => ?_; go_simp; refine hK _ ?_; clear hK K)))
      (refine lex_e fun K hK => ?_; go_big_op)
      refine (s_FlatStep hz (RModule.under H.out hS (Hbw.out.trans (HA.out.mono (by omega)))) (fun b hb => by have := hS b hb; omega) (RWordState.under HSt.out (fun b hb => by have h1 : b < wr.heap.size := hb.1; omega) HA.out) (fun b hb => by have h1 : b < wr.heap.size := hb.1; omega) (Hr.out.under (fun b hb => by have := hS4 b hb; omega) HA.out) (fun b hb => by have := hS4 b hb; omega)).mono ?_
      rintro e D1 ⟨v1, v2, T1, T2, rfl, hs1, hs2, hdj, hq1, hq2, hbc⟩
      obtain ⟨R0, r0, f0, R1, r1, f1, rfl⟩ := hq1.r.form
      obtain ⟨O0, o0, oc, rfl⟩ := slv_of hq2.rep
      rw [stp_yes HSO.out, ← HVS.out] at hq1
      rw [stp_yesO HSO.out, ← HVS.out] at hq2
      have HQo := Lib.hid (hq2.mono (S' := fun b => D.heap.size ≤ b ∧ b < D1.heap.size) (fun b hb => hs2 b hb))
      have HQn := Lib.hid (hq1.r.mono (S' := fun b => D.heap.size ≤ b ∧ b < D1.heap.size) (fun b hb => hs1 b hb))
      (try have HXa := Lib.hid (HXa.out.below hbc HXa.out.lt))
      have zD1 := hbc.size
      have HA := Lib.hid (HA.out.trans (hbc.mono (by omega)))
      refine hK _ _ (Cls.mk' HA.out) ?_
      clear hK K hbc hq1 hq2 hdj hs1 hs2
      (repeat (first | (refine lex_r fun K hK => ?_; go_big_quiet_op; refine hK _ ?_; clear hK K) | (refine lex_k fun K hK => ?_; go_simp; refine hK _ ?_; clear hK K)))
      (refine lex_e fun K hK => ?_; go_big_op)
      obtain ⟨D2, hD2⟩ : ∃ x, x = D1.alloc (.cells #[.slice none 0 0, .slice none 0 0] 52) := ⟨_, rfl⟩
      rw [← hD2]
      have bD2 : Below D1.heap.size D1 D2 := by rw [hD2]; exact (Below.refl _ _).alloc (Nat.le_refl _) _
      have zD2 : D1.heap.size + 1 ≤ D2.heap.size := by rw [hD2]; simp
      obtain ⟨gx, hgx⟩ : ∃ g, g = D1.heap.size := ⟨_, rfl⟩
      have HXa := Lib.hid (show Blk D2 gx 52 #[.slice none 0 0, .slice none 0 0] by rw [hD2, hgx]; exact Blk.new _ _ _)
      rw [← hgx]
      have gxa : D1.heap.size ≤ gx := by omega
      have gxb : gx < D2.heap.size := by omega
      have HA := Lib.hid (HA.out.trans (bD2.mono (by omega)))
      (try have HQn := Lib.hid (HQn.out.under (fun b hb => hb.2) bD2))
      (try have HQo := Lib.hid (HQo.out.under (fun b hb => hb.2) bD2))
      refine hK _ _ (Cls.mk' HA.out) ?_
      clear hK K hD2 bD2 hgx
      obtain ⟨q0, q1⟩ := blkS2 HXa.out
      have fz0 := HXa.out.frozen 0
      have fz1 := HXa.out.frozen 1
      (repeat (first | (refine lex_r fun K hK => ?_; go_big_quiet_op; refine hK _ ?_; clear hK K) | (refine lex_k fun K hK => ?_; go_simp; refine hK _ ?_; clear hK K)))
      (refine lex_e fun K hK => ?_; go_big_op)
      obtain ⟨wx, hwx⟩ : ∃ x, x = ((D2.setCell ⟨gx, 0, none⟩ (.slice R0 r0 f0)).setCell ⟨gx, 1, none⟩ (.slice R1 r1 f1)) := ⟨_, rfl⟩
      rw [← hwx]
      have HA := Lib.hid (show Below wr.heap.size wr wx by rw [hwx]; exact (HA.out.setCell (by show wr.heap.size ≤ gx; omega) _).setCell (by show wr.heap.size ≤ gx; omega) _)
      refine hK _ _ (Cls.mk' HA.out) ?_
      clear hK K q0 q1 fz0 fz1
      (repeat (first | (refine lex_r fun K hK => ?_; go_big_quiet_op; refine hK _ ?_; clear hK K) | (refine lex_k fun K hK => ?_; go_simp; refine hK _ ?_; clear hK K)))
      (refine lex_nil ?_)
      refine ⟨Cls.mk' HA.out, ?_⟩
      clear lexNE cm0 cm1 cm2 cm3 cs0 cs1 ci
      go_wp2_with fail
      go_meet
      case rel =>
       have hk2 : ∀ b, b ≠ gx → wx.heap[b]? = D2.heap[b]? := fun b hb => by
        rw [hwx]
        exact (Below.heap_setCell _ ⟨gx, 1, none⟩ _ b hb).trans (Below.heap_setCell _ ⟨gx, 0, none⟩ _ b hb)
       have hsf : wx.heap.size = D2.heap.size := by rw [hwx]; simp [World.setCell]
       refine ⟨gx, R0, r0, f0, R1, r1, f1, O0, o0, oc, rfl, rfl, ⟨by omega, by omega⟩, by rw [hwx]; exact blk_two HXa.out, ?_, ?_, HA.out⟩
       rotate_left
       ·exact (HQo.out.keep (w' := wx) (fun b hb => hk2 _ (by have h1 := hb.1; have h2 := hb.2; omega))).mono (fun b hb => by have h1 := hb.1; have h2 := hb.2; exact ⟨⟨by omega, by omega⟩, by omega⟩)
       exact (HQn.out.keep (w' := wx) (fun p hp => World.cell?_of_block (hk2 _ (by have h1 := hp.1; have h2 := hp.2; omega)))).mono (fun b hb => by have h1 := hb.1; have h2 := hb.2; exact ⟨⟨by omega, by omega⟩, by omega⟩)
     ·(repeat (first | (refine lex_r fun K hK => ?_; go_big_quiet_op; refine hK _ ?_; clear hK K) | (refine lex_k fun K hK => ?_; go_simp; refine hK _ ?_; clear hK K)))
      (refine lex_e fun K hK => ?_; go_big_op)
      obtain ⟨D1, hD1⟩ : ∃ x, x = D.alloc (.cells #[.slice none 0 0, .slice none 0 0] 52) := ⟨_, rfl⟩
      rw [← hD1]
      have bD1 : Below D.heap.size D D1 := by rw [hD1]; exact (Below.refl _ _).alloc (Nat.le_refl _) _
      have zD1 : D.heap.size + 1 ≤ D1.heap.size := by rw [hD1]; simp
      obtain ⟨gx, hgx⟩ : ∃ g, g = D.heap.size := ⟨_, rfl⟩
      have HXa := Lib.hid (show Blk D1 gx 52 #[.slice none 0 0, .slice none 0 0] by rw [hD1, hgx]; exact Blk.new _ _ _)
      rw [← hgx]
      have gxa : D.heap.size ≤ gx := by omega
      have gxb : gx < D1.heap.size := by omega
      have HA := Lib.hid (HA.out.trans (bD1.mono (by omega)))
      (try have HQn := Lib.hid (HQn.out.under (fun b hb => hb.2) bD1))
      (try have HQo := Lib.hid (HQo.out.under (fun b hb => hb.2) bD1))
      refine hK _ _ (Cls.mk' HA.out) ?_
      clear hK K hD1 bD1 hgx
      (repeat (first | (refine lex_r fun K hK => ?_; go_big_quiet_op; refine hK _ ?_; clear hK K) | (refine lex_k fun K hK => ?_; go_simp; refine hK _ ?_; clear hK K)))
      (refine lex_e fun K hK => ?_; go_big_op)
      refine (s_FlatStep hz (RModule.under H.out hS (Hbw.out.trans (HA.out.mono (by omega)))) (fun b hb => by have := hS b hb; omega) (RWordState.under HSt.out (fun b hb => by have h1 : b < wr.heap.size := hb.1; omega) HA.out) (fun b hb => by have h1 : b < wr.heap.size := hb.1; omega) (Hr.out.under (fun b hb => by have := hS4 b hb; omega) HA.out) (fun b hb => by have := hS4 b hb; omega)).mono ?_
      rintro e D2 ⟨v1, v2, T1, T2, rfl, hs1, hs2, hdj, hq1, hq2, hbc⟩
      obtain ⟨R0, r0, f0, R1, r1, f1, rfl⟩ := hq1.r.form
      obtain ⟨O0, o0, oc, rfl⟩ := slv_of hq2.rep
      rw [stp_yes HSO.out, ← HVS.out] at hq1
      rw [stp_yesO HSO.out, ← HVS.out] at hq2
      have HQo := Lib.hid (hq2.mono (S' := fun b => D1.heap.size ≤ b ∧ b < D2.heap.size) (fun b hb => hs2 b hb))
      have HQn := Lib.hid (hq1.r.mono (S' := fun b => D1.heap.size ≤ b ∧ b < D2.heap.size) (fun b hb => hs1 b hb))
      (try have HXa := Lib.hid (HXa.out.below hbc HXa.out.lt))
      have zD2 := hbc.size
      have HA := Lib.hid (HA.out.trans (hbc.mono (by omega)))
      refine hK _ _ (Cls.mk' HA.out) ?_
      clear hK K hbc hq1 hq2 hdj hs1 hs2
      obtain ⟨q0, q1⟩ := blkS2 HXa.out
      have fz0 := HXa.out.frozen 0
      have fz1 := HXa.out.frozen 1
      (repeat (first | (refine lex_r fun K hK => ?_; go_big_quiet_op; refine hK _ ?_; clear hK K) | (refine lex_k fun K hK => ?_; go_simp; refine hK _ ?_; clear hK K)))
      (refine lex_e fun K hK => ?_; go_big_op)
      obtain ⟨wx, hwx⟩ : ∃ x, x = ((D2.setCell ⟨gx, 0, none⟩ (.slice R0 r0 f0)).setCell ⟨gx, 1, none⟩ (.slice R1 r1 f1)) := ⟨_, rfl⟩
      rw [← hwx]
      have HA := Lib.hid (show Below wr.heap.size wr wx by rw [hwx]; exact (HA.out.setCell (by show wr.heap.size ≤ gx; omega) _).setCell (by show wr.heap.size ≤ gx; omega) _)
      refine hK _ _ (Cls.mk' HA.out) ?_
      clear hK K q0 q1 fz0 fz1
      (repeat (first | (refine lex_r fun K hK => ?_; go_big_quiet_op; refine hK _ ?_; clear hK K) | (refine lex_k fun K hK => ?_; go_simp; refine hK _ ?_; clear hK K)))
      (refine lex_nil ?_)
      refine ⟨Cls.mk' HA.out, ?_⟩
      clear lexNE cm0 cm1 cm2 cm3 cs0 cs1 ci
      go_wp2_with fail
      go_meet
      case rel =>
       have hk2 : ∀ b, b ≠ gx → wx.heap[b]? = D2.heap[b]? := fun b hb => by
        rw [hwx]
        exact (Below.heap_setCell _ ⟨gx, 1, none⟩ _ b hb).trans (Below.heap_setCell _ ⟨gx, 0, none⟩ _ b hb)
       have hsf : wx.heap.size = D2.heap.size := by rw [hwx]; simp [World.setCell]
       refine ⟨gx, R0, r0, f0, R1, r1, f1, O0, o0, oc, rfl, rfl, ⟨by omega, by omega⟩, by rw [hwx]; exact blk_two HXa.out, ?_, ?_, HA.out⟩
       rotate_left
       ·exact (HQo.out.keep (w' := wx) (fun b hb => hk2 _ (by have h1 := hb.1; have h2 := hb.2; omega))).mono (fun b hb => by have h1 := hb.1; have h2 := hb.2; exact ⟨⟨by omega, by omega⟩, by omega⟩)
       exact (HQn.out.keep (w' := wx) (fun p hp => World.cell?_of_block (hk2 _ (by have h1 := hp.1; have h2 := hp.2; omega)))).mono (fun b hb => by have h1 := hb.1; have h2 := hb.2; exact ⟨⟨by omega, by omega⟩, by omega⟩)
    case rest =>
     obtain ⟨gx, R0, r0, f0, R1, r1, f1, O0, o0, oc, rfl, rfl, ⟨hx1, hx2⟩, hbx, hqx, hqo, hbc⟩ := hcut
     have HSc := Lib.hid (HSr.out.below hbc HSr.out.lt)
     have HXx := Lib.hid hbx
     have HQx := Lib.hid hqx
     have HQo := Lib.hid hqo
     have HBc := Lib.hid hbc
     have Hownc := Lib.hid (own_below Hown.out hbc (Nat.le_refl _))
     have zzc := hbc.size
     clear hbc hqx hbx hqo
     go_wp2_with (at_builtin; refine wpList_append_any _ rfl _ _ 28 rfl (0) 49 i0 (.slice none 0 0) 1 24 Tryz.underlying28 hi hz0 hz1 hz2 rfl (by decide) _ _ _ rfl ((own_mono Hownc.out (Nat.zero_le _)).alloc _) _ _ 1 1 _ rfl (reads_new _ _ 1 1 rfl) (by intro u hu; simp at hu; first | (subst hu; rfl) | (rcases hu with rfl | rfl <;> rfl) | (rcases hu with rfl | rfl | rfl <;> rfl)) (by unfold maxLen; omega) (by omega) (by (try simp) <;> (try omega)) ?_; intro v6 w6 hown6 hgrow6 hblk6; refine stopX ?_)
     refine stopped ?_
     have hg6 : ∀ b, b < wc.heap.size → (Value.slice A k c).ownBlock ≠ some b → w6.heap[b]? = wc.heap[b]? := fun b h1 h2 => (hgrow6.block b (by simp; omega) (fun e => h2 e.symm)).trans (Below.heap_alloc wc _ b h1)
     have hnA : ∀ b, wr.heap.size ≤ b → (Value.slice A k c).ownBlock ≠ some b := fun b h1 h2 => by have := (HgA.out _ h2).2; omega
     have HB6 := Lib.hid (Hb.out.trans (((HBc.out.alloc (by omega) _).mono (by omega)).trans (below_of_grown hgrow6 (by simp; omega) (fun g hg => by have := HgA.out g hg; omega))))
     have HS6 := Lib.hid (show Blk w6 w2.heap.size 52 #[.slice S0 p0 e0, .slice S1 p1 e1] from (hg6 _ (by omega) (fun h1 => by have := (HgA.out _ h1).1; omega)).trans HSc.out)
     have HX6 := Lib.hid (show Blk w6 gx 52 #[.slice R0 r0 f0, .slice R1 r1 f1] from (hg6 _ hx2 (hnA _ hx1)).trans HXx.out)
     have HQ6 := Lib.hid (HQx.out.keep (w' := w6) (fun p hp => World.cell?_of_block (hg6 _ hp.1.2 (hnA _ hp.1.1))))
     have HG6 := Lib.hid (show GrowI w6 (fun b => b = U0.heap.size ∨ U2.heap.size ≤ b) 49 1 v6 (L ++ [rIntS (outV m VS)]) (xs ++ [.slice O0 o0 oc]) from
      GrowI.push (Q := fun j b => j = 0 ∧ ((wr.heap.size ≤ b ∧ b < wc.heap.size) ∧ b ≠ gx)) HG.out (HBc.out.alloc (by omega) _) (Nat.le_refl _) (fun b hb => .inr (by omega)) (by rw [hLl]; exact hown6) hgrow6 hblk6 rfl (fun j b hb => ⟨hb.2.1.1, by have h1 := hb.2.1.2; simp; omega⟩) (fun j j' b h1 h2 => h1.1.trans h2.1.symm) (fun j f hf => by
       match j, hf with
       | 0, hf => simp [rIntS] at hf; subst hf; exact ⟨_, rfl, (HQo.out.alloc (fun b hb => hb.1.2) _).mono (fun b hb => ⟨rfl, hb⟩)⟩
       | j + 1, hf => simp [rIntS] at hf))
     have z6 : wc.heap.size ≤ w6.heap.size := by have := hgrow6.size; simp at this; omega
     have hv6' : ∀ b, v6.ownBlock = some b → b < wr.heap.size ∨ wc.heap.size ≤ b := fun b hb => by
      rcases hblk6 with h1 | h1
      ·exact .inl (HgA.out b (h1 ▸ hb)).2
      ·rw [hb] at h1
       injection h1 with h1
       simp at h1
       omega
     have Hv6 := Lib.hid hv6'
     obtain ⟨q0, q1⟩ := blkS2 HX6.out
     obtain ⟨z0, z1⟩ := blkS2 HS6.out
     have fz0 := HS6.out.frozen 0
     have fz1 := HS6.out.frozen 1
     clear hown6 hgrow6 hblk6 hg6 hnA hv6'
     go_wp2_with fail
     obtain ⟨wf, hwf⟩ : ∃ wf, wf = ((w6.setCell ⟨w2.heap.size, 0, none⟩ (.slice R0 r0 f0)).setCell ⟨w2.heap.size, 1, none⟩ (.slice R1 r1 f1)) := ⟨_, rfl⟩
     have hk2 : ∀ b, b ≠ w2.heap.size → wf.heap[b]? = w6.heap[b]? := fun b hb => by
      rw [hwf]
      exact (Below.heap_setCell _ ⟨w2.heap.size, 1, none⟩ _ b hb).trans (Below.heap_setCell _ ⟨w2.heap.size, 0, none⟩ _ b hb)
     have hsf : wf.heap.size = w6.heap.size := by rw [hwf]; simp [World.setCell]
     have HSf := Lib.hid (show Blk wf w2.heap.size 52 #[.slice R0 r0 f0, .slice R1 r1 f1] by rw [hwf]; exact blk_two HS6.out)
     have HBf := Lib.hid (show Below U0.heap.size U0 wf by rw [hwf]; exact (HB6.out.setCell (by show U0.heap.size ≤ w2.heap.size; omega) _).setCell (by show U0.heap.size ≤ w2.heap.size; omega) _)
     rw [← hwf]
     have Hk2 := Lib.hid hk2
     have Hsf := Lib.hid hsf
     clear hwf hk2 hsf z0 z1 fz0 fz1 q0 q1
     go_roundw
     case rel =>
      have hsf := Hsf.out
      refine ⟨k + 1, _, _, _, by omega, by go_num, by rw [HTS.out]; exact HG6.out.keep (fun b h1 _ => Hk2.out b (by omega)) (by omega), HSf.out, ?_, HBf.out, by omega⟩
      rw [HCS.out]
      refine (HQ6.out.keep (w' := wf) (fun p hp => World.cell?_of_block (Hk2.out _ (by have h1 := hp.1.1; omega)))).mono (fun b hb => ⟨by have := hb.1.2; omega, fun h1 => by have h2 := Hv6.out b h1; have h3 := hb.1; omega, by have h3 := hb.1.1; omega⟩)
     case measure => simp [intOf]; omega
   ·have hge : (nx : Int) ≤ (k : Int) := by omega
    have hkn : k = nx := by omega
    go_wp2_with fail
    go_ret
    refine ⟨_, rfl, ?_, Hbw.out⟩
    rw [run_yes HR.out, Hnx.out, ← hkn]
    show Sep wr _ _ (.sl ((runK m ins k).map rIntS))
    rw [← HL.out]
    exact (HG.out.sep hLl (by unfold maxLen; omega)).mono (fun b hb => ⟨by have := hb.1; omega, hb.2⟩)
end Go.Proofs.YtjkdgedgfkgjdaaGreat
