/- Contracts: the trace of a flat module: the reference's function. -/
import Derived.Test.YtjkdgedgfkgjdaaTrcS
import Derived.Test.YtjkdgedgfkgjdaaOrdP
import Derived.Outline
namespace Go.Proofs.Ytjkdgedgfkgjdaa
open Go.RowKit

theorem sig_yes {m : TModule} {st : TWordState} {ins : List Int} (h : wsB m st = true) (hl : ins.length = (widthsM m 0).length) : sigOk m st ins = true := by
 unfold sigOk
 rw [h, decide_eq_true hl]
 rfl
theorem stp_yes {m : TModule} {st : TWordState} {ins : List Int} (h : sigOk m st ins = true) : stpS m st ins = nextN m st.2 (sigN m st ins) := by
 unfold stpS
 rw [h]
 rfl
theorem sep_made2 {w : World} {S : Nat → Prop} {b : Nat} (h : w.ownsRow b 28 1 (.slice (some ⟨b, 0, none⟩) 0 0) 0 []) (hS : S b) : Sep w S (.slice (some ⟨b, 0, none⟩) 0 0) (.sl []) :=
 (RowsOf.nil w (fun _ => False) 1 []).sep (S' := S) rfl (Nat.zero_le _) (fun _ h => by simp at h) h (fun g hg => ⟨by have hg : b = g := (by injection hg); exact hg ▸ hS, fun h => h⟩) (fun _ h => h.elim)
set_option maxRecDepth 100000 in
set_option maxHeartbeats 16000000 in
theorem s_FlatTrace {w : World} {S S4 : Nat → Prop} {v : Value} {Ai : Option Addr} {nx ci : Nat} {m : TModule} {ins : List (List Int)} (hz : sModule m ≤ 1048576)
  (h : RModule w S v m) (hS : ∀ b, S b → b < w.heap.size) (hin : Rep w S4 (.slice Ai nx ci) (fIntSS ins)) (hS4 : ∀ b, S4 b → b < w.heap.size) :
  Calls Try.prog 26 #[v, .slice Ai nx ci] w fun e w' => ∃ v', e = .returned v' ∧ Sep w' (New w w') v' (fIntSS (trcL m ins)) ∧ Below w.heap.size w w' := by
 obtain ⟨i0, hi, hz0, hz1, hz2⟩ := info_parts Try.infIntS
 have hnx := hin.len
 rw [List.length_map] at hnx
 have Hins := Lib.hid hin
 have Hnx := Lib.hid hnx
 clear hin
 obtain ⟨A0, c0, A1, c1, A2, c2, A3, c3, rfl, hSg, hAs, -, hMe, hm0, hm1, hm2, hm3⟩ := mod_open h
 obtain ⟨ns, hns⟩ : ∃ ns, m.1.length = ns := ⟨_, rfl⟩
 obtain ⟨na, hna⟩ : ∃ na, m.2.1.length = na := ⟨_, rfl⟩
 obtain ⟨ni, hni⟩ : ∃ ni, m.2.2.1.length = ni := ⟨_, rfl⟩
 obtain ⟨nm, hnm⟩ : ∃ nm, m.2.2.2.length = nm := ⟨_, rfl⟩
 rw [hns, hna, hni, hnm] at h ⊢
 rw [hns] at hSg hm0
 rw [hna] at hAs hm1
 rw [hni] at hm2
 rw [hnm] at hMe hm3
 unfold maxLen at hm0 hm1 hm2 hm3
 have Hn := Lib.hid (And.intro hns (And.intro hna (And.intro hni hnm)))
 have H := Lib.hid h
 have HSg := Lib.hid hSg
 have HAs := Lib.hid hAs
 have HMe := Lib.hid hMe
 have HB0 := Lib.hid ((Below.refl w.heap.size w).alloc (Nat.le_refl _) (.cells #[.slice A0 ns c0, .slice A1 na c1, .slice A2 ni c2, .slice A3 nm c3] 41))
 have HX0 := Lib.hid (Blk.new w 41 #[.slice A0 ns c0, .slice A1 na c1, .slice A2 ni c2, .slice A3 nm c3])
 clear hns hna hnm hni h hSg hAs hMe
 go_enter Try.func26, Try.ntmps26
 obtain ⟨y0, y1, y2, y3⟩ := blkS4 (HX0.out.alloc (.cells #[] 28))
 go_wp2_with fail
 obtain ⟨U0, hU0⟩ : ∃ U0, U0 = w.alloc (.cells #[.slice A0 ns c0, .slice A1 na c1, .slice A2 ni c2, .slice A3 nm c3] 41) := ⟨_, rfl⟩
 have hu0 : U0.heap.size = w.heap.size + 1 := by rw [hU0]; simp
 rw [← hU0] at HB0 HX0 ⊢
 obtain ⟨U1, hU1⟩ : ∃ U1, U1 = U0.alloc (.cells #[] 28) := ⟨_, rfl⟩
 have hu1 : U0.heap.size < U1.heap.size := by rw [hU1]; simp
 rw [← hU1, ← hu0]
 have HB1 := Lib.hid (show Below U0.heap.size U0 U1 by rw [hU1]; exact (Below.refl _ _).alloc (Nat.le_refl _) _)
 have HO1 := Lib.hid (show U1.ownsRow U0.heap.size 28 1 (.slice (some ⟨U0.heap.size, 0, none⟩) 0 0) 0 [] by rw [hU1]; exact World.ownsRow_made (base := U0.heap.size) (size := 1) (e := 28) U0 #[] 0 (Nat.le_refl _) (by unfold maxLen; omega) rfl)
 have Hu0 := Lib.hid hu0
 have hu0' : w.heap.size < U0.heap.size := by omega
 clear hU0 hU1 hu0 y0 y1 y2 y3
 refine (s_l07RunOk hz (RModule.under H.out hS (HB0.out.trans (HB1.out.mono (by omega)))) (fun b hb => by have := hS b hb; omega) (Hins.out.under hS4 (HB0.out.trans (HB1.out.mono (by omega)))) (fun b hb => by have := hS4 b hb; omega)).mono ?_
 rintro e w1 ⟨rfl, hb1⟩
 have HB2 := Lib.hid (HB1.out.trans (hb1.mono (by omega)))
 have HO2 := Lib.hid (own_below HO1.out hb1 (Nat.le_refl _))
 have zz1 := hb1.size
 clear hb1
 have HXM1 := Lib.hid (HX0.out.below HB2.out HX0.out.lt)
 cases hr : runB m ins with
 | false =>
  have HR := Lib.hid hr
  clear hr
  go_wp2_with fail
  go_ret
  refine ⟨_, rfl, ?_, HB0.out.trans (HB2.out.mono (by omega))⟩
  rw [trc_no HR.out]
  exact sep_made2 HO2.out ⟨by omega, by omega⟩
 | true =>
  have HR := Lib.hid hr
  have HF := Lib.hid (runB_iff hr).1
  have h16 := (runB_iff hr).2.1
  clear hr
  obtain ⟨y0, y1, y2, y3⟩ := blkS4 HXM1.out
  go_wp2_with fail
  refine (s_FlatStart hz (RModule.under H.out hS (HB0.out.trans (HB2.out.mono (by omega)))) (fun b hb => by have := hS b hb; omega)).mono ?_
  rintro e w2 ⟨vs, rfl, hqs, hb2⟩
  obtain ⟨Q0, q0, d0, Q1, q1, d1, rfl⟩ := hqs.r.form
  have hst : startS m = startN m := by unfold startS; rw [HF.out]; rfl
  rw [hst] at hqs
  have HB3 := Lib.hid (HB2.out.trans (hb2.mono (by omega)))
  have HO3 := Lib.hid (own_below HO2.out hb2 (Nat.le_refl _))
  have HQs := Lib.hid hqs.r
  have zz2 := hb2.size
  obtain ⟨U2, hU2⟩ : ∃ U2, U2 = w2.alloc (.cells #[.slice Q0 q0 d0, .slice Q1 q1 d1] 33) := ⟨_, rfl⟩
  have HU2 := Lib.hid hU2
  have HW2 := Lib.hid (show Below w2.heap.size w2 U2 by rw [hU2]; exact (Below.refl _ _).alloc (Nat.le_refl _) _)
  have HXS2 := Lib.hid (show Blk U2 w2.heap.size 33 #[.slice Q0 q0 d0, .slice Q1 q1 d1] by rw [hU2]; exact Blk.new _ _ _)
  have hu2 : w2.heap.size < U2.heap.size := by rw [hU2]; simp
  have HBU2 := Lib.hid (HB3.out.trans (HW2.out.mono (by omega)))
  have HOU := Lib.hid (own_below HO3.out HW2.out (Nat.le_refl _))
  clear hqs hb2 y0 y1 y2 y3 hU2 hst
  go_wp2_with fail
  rw [← HU2.out]
  go_loopw [5, 7, 8, 9] (fun ov iv _ _ wr => ∃ (k : Nat) (xs : List Value) (s0 s1 : Value), k ≤ nx ∧ iv = .int .i64 k ∧ GrowI wr (fun b => b = U0.heap.size ∨ U2.heap.size ≤ b) 28 1 ov ((trcK m ins k).map rIntS) xs ∧ Blk wr w2.heap.size 33 #[s0, s1] ∧ RWordState wr (fun b => b < wr.heap.size ∧ ov.ownBlock ≠ some b ∧ b ≠ w2.heap.size) (.agg #[s0, s1]) (cycS m ins k) ∧ Below U0.heap.size U0 wr ∧ U2.heap.size ≤ wr.heap.size) (fun _ iv _ _ _ => nx - (intOf iv).toNat)
  case atStart => exact ⟨0, [], _, _, Nat.zero_le _, rfl, GrowI.empty HOU.out (fun g hg => .inl (by have hg : U0.heap.size = g := (by injection hg); exact hg.symm)), HXS2.out, (RWordState.under HQs.out (fun b hb => hb.2) HW2.out).mono (fun b hb => ⟨by have := hb.2; omega, fun hg => by have hg : U0.heap.size = b := (by injection hg); have : w1.heap.size ≤ b := hb.1; omega, by have := hb.2; omega⟩), HBU2.out, Nat.le_refl _⟩
  case round =>
   obtain ⟨k, xs, s0, s1, hk, rfl, hgr, hbs, hst, hb, hu⟩ := hrel
   obtain ⟨S0, p0, e0, S1, p1, e1, hse⟩ := hst.form
   injection hse with hse
   injection hse with hse
   injection hse with hs0 hse
   injection hse with hs1 _
   subst hs0 hs1
   have Hb := Lib.hid hb
   have hsz := hb.size
   have Hbw := Lib.hid (HB0.out.trans (hb.mono (by omega)))
   have HXr := Lib.hid (HX0.out.below hb HX0.out.lt)
   have HSr := Lib.hid hbs
   have HSt := Lib.hid hst
   have HG := Lib.hid hgr
   have g1 : (0 : Int) ≤ (k : Int) := by omega
   obtain ⟨L, hL⟩ : ∃ L, L = (trcK m ins k).map rIntS := ⟨_, rfl⟩
   have hLl : L.length = k := by rw [hL, List.length_map, trcK_len]
   rw [← hL] at HG
   have HL := Lib.hid hL
   have hown := HG.out.own
   rw [hLl] at hown
   obtain ⟨A, c, rfl, _, _, _⟩ := own_form hown
   have Hown := Lib.hid hown
   clear hb hbs hst hgr hL hown
   by_cases hlt : k < nx
   ·obtain ⟨ad, x, v0, rfl, hab, hx, hr, ei⟩ := fIntSS_row (Hins.out.under hS4 Hbw.out) hlt
    obtain ⟨Ax, nl, cx, rfl⟩ := slv_of hr
    have g2 : (k : Int) < (nx : Int) := by omega
    have hxl := (runB_iff HR.out).2.2 x (List.mem_of_getElem? hx)
    have Hgd := Lib.hid (show ins.getD k [] = x by rw [List.getD_eq_getElem?_getD, hx]; rfl)
    have HWS := Lib.hid (cyc_ws (ins := ins) HF.out k)
    have HSO := Lib.hid (sig_yes HWS.out hxl)
    have Hr := Lib.hid hr
    have hgA : ∀ g, (Value.slice A k c).ownBlock = some g → (g = U0.heap.size ∨ U2.heap.size ≤ g) ∧ g < wr.heap.size := fun g hg => ⟨HG.out.ownI g hg, (Hown.out.lt g hg).2⟩
    have HgA := Lib.hid hgA
    have hai := hS4 _ hab
    have hslt := HSr.out.lt
    clear hx hr hxl hgA
    go_wp2_with fail
    refine wp_region_lexC (by kernel_rfl) (by kernel_rfl) (fun x => Only (fun b => (Value.slice A k c).ownBlock = some b) wr x) ((Only.refl _ _).drew) (fun lexNE => ?_)
    obtain ⟨dm0, dm1, dm2, dm3⟩ := blkS4 HXr.out
    obtain ⟨ds0, ds1⟩ := blkS2 HSr.out
    have nm0 : ¬ (Value.slice A k c).ownBlock = some w.heap.size := fun h1 => by have := (HgA.out _ h1).1; omega
    have nm1 : ¬ (Value.slice A k c).ownBlock = some w2.heap.size := fun h1 => by have := (HgA.out _ h1).1; omega
    have nm2 : ¬ (Value.slice A k c).ownBlock = some ad.block := fun h1 => by have := (HgA.out _ h1).1; omega
    have cm0 := ocell (S := fun b => (Value.slice A k c).ownBlock = some b) dm0 HXr.out.lt nm0
    have cm1 := ocell (S := fun b => (Value.slice A k c).ownBlock = some b) dm1 HXr.out.lt nm0
    have cm2 := ocell (S := fun b => (Value.slice A k c).ownBlock = some b) dm2 HXr.out.lt nm0
    have cm3 := ocell (S := fun b => (Value.slice A k c).ownBlock = some b) dm3 HXr.out.lt nm0
    have cs0 := ocell (S := fun b => (Value.slice A k c).ownBlock = some b) ds0 HSr.out.lt nm1
    have cs1 := ocell (S := fun b => (Value.slice A k c).ownBlock = some b) ds1 HSr.out.lt nm1
    have ci := ocell (S := fun b => (Value.slice A k c).ownBlock = some b) ei (by rw [block_of_add]; omega) (by rw [block_of_add]; exact nm2)
    clear dm0 dm1 dm2 dm3 ds0 ds1 nm0 nm1 nm2
    (repeat (first | (refine lex_r fun K hK => ?_; go_big_quiet_op; refine hK _ ?_; clear hK K) | (refine lex_k fun K hK => ?_; go_simp; refine hK _ ?_; clear hK K)))
    (refine lex_e fun K hK => ?_; go_big_op)
    refine (s_SignalValues hz (RModule.under H.out hS Hbw.out.drew) (fun b hb => by have := hS b hb; show b < wr.heap.size; omega) (RWordState.under HSt.out (fun b hb => hb.1) (Below.refl wr.heap.size wr).drew) (fun b hb => hb.1) Hr.out.drew (fun b hb => by have := hS4 b hb; show b < wr.heap.size; omega)).mono ?_
    rintro e w5 ⟨vv, rfl, hqv, hb5⟩
    obtain ⟨VS, hVS⟩ : ∃ VS, VS = sigN m (cycS m ins k) x := ⟨_, rfl⟩
    have hqv : Sep w5 (New wr w5) vv (fIntS (nI VS)) := by have h1 := hqv; unfold sigL at h1; rw [HSO.out, if_pos rfl, ← hVS] at h1; exact h1
    obtain ⟨Av, nvv, cv, rfl⟩ := slv_of hqv.rep
    have H5 := Lib.hid ((Below.refl wr.heap.size wr).drew.trans hb5)
    have HQv := Lib.hid hqv
    have HVS := Lib.hid hVS
    have zz5 := H5.out.size
    have hcyc : cycV m ins k = VS := by unfold cycV; rw [Hgd.out, hVS]
    have HTS := Lib.hid (show (trcK m ins (k + 1)).map rIntS = L ++ [rIntS (nI VS)] by rw [trcK_succ, List.map_append, ← HL.out, hcyc]; rfl)
    have HCS := Lib.hid (show cycS m ins (k + 1) = nextN m (cycS m ins k).2 VS by show nextN m (cycS m ins k).2 (sigN m (cycS m ins k) (ins.getD k [])) = _; rw [Hgd.out, hVS])
    have Hown5 := Lib.hid (own_below Hown.out H5.out (Nat.le_refl _))
    refine hK _ _ (Cls.mk' (Only.of_below H5.out _)) ?_
    clear hK K hb5 hqv hVS hcyc
    (repeat (first | (refine lex_r fun K hK => ?_; go_big_quiet_op; refine hK _ ?_; clear hK K) | (refine lex_k fun K hK => ?_; go_simp; refine hK _ ?_; clear hK K)))
    (refine lex_e fun K hK => ?_; go_big_op)
    refine hK _ _ (Cls.mk' ((Only.of_below H5.out _).alloc _)) ?_
    clear hK K
    refine lex_e fun K hK => ?_
    refine wp_append_any _ _ _ 52 (by rfl) (0) 28 i0 (.slice none 0 0) 1 24 Try.underlying52 hi hz0 hz1 hz2 rfl (by decide) _ _ _ (by rfl) (Hown5.out.alloc _) _ _ 1 1 _ (by rfl) (reads_new _ _ 1 1 rfl) (by intro u hu; simp at hu; first | (subst hu; rfl) | (rcases hu with rfl | rfl <;> rfl) | (rcases hu with rfl | rfl | rfl <;> rfl)) (by unfold maxLen; omega) (by omega) (by (try simp) <;> (try omega)) ?_
    intro v6 w6 hown6 hgrow6 hblk6
    go_simp
    refine hK _ _ (Cls.mk' (Only.grown ((Only.of_below H5.out (fun b => (Value.slice A k c).ownBlock = some b)).alloc _) hgrow6 (fun g hg => .inl hg))) ?_
    clear hK K
    (repeat (first | (refine lex_r fun K hK => ?_; go_big_quiet_op; refine hK _ ?_; clear hK K) | (refine lex_k fun K hK => ?_; go_simp; refine hK _ ?_; clear hK K)))
    (refine lex_nil ?_)
    clear lexNE cm0 cm1 cm2 cm3 cs0 cs1 ci
    have HB6 := Lib.hid (Hb.out.trans (((H5.out.alloc (by omega) _).mono (by omega)).trans (below_of_grown hgrow6 (by simp; omega) (fun g hg => by have := HgA.out g hg; omega))))
    have HX6 := Lib.hid (HX0.out.below HB6.out HX0.out.lt)
    have hg6 : ∀ b, b < w5.heap.size → (Value.slice A k c).ownBlock ≠ some b → w6.heap[b]? = w5.heap[b]? := fun b h1 h2 => (hgrow6.block b (by simp; omega) (fun e => h2 e.symm)).trans (Below.heap_alloc w5 _ b h1)
    have HS6 := Lib.hid (show Blk w6 w2.heap.size 33 #[.slice S0 p0 e0, .slice S1 p1 e1] from (hg6 _ (by omega) (fun h1 => by have := (HgA.out _ h1).1; omega)).trans (HSr.out.below H5.out hslt))
    have HSt6 := Lib.hid ((RWordState.under HSt.out (fun b hb => hb.1) H5.out).keep (w' := w6) (fun p hp => World.cell?_of_block (hg6 _ (by have := hp.1; omega) hp.2.1)))
    have hg6r : ∀ b, b < w.heap.size → w6.heap[b]? = wr.heap[b]? := fun b h1 => (hg6 b (by omega) (fun h2 => by have := (HgA.out _ h2).1; omega)).trans (H5.out.block b (by omega))
    have Hins6 := Lib.hid (Hr.out.keep (w' := w6) (fun p hp => World.cell?_of_block (hg6r _ (hS4 _ hp))))
    have ei6 : w6.cell? (ad.add k) = some (.slice Ax nl cx) := (World.cell?_of_block (hg6r _ (by rw [block_of_add]; exact hai))).trans ei
    have HG6 := Lib.hid (show GrowI w6 (fun b => b = U0.heap.size ∨ U2.heap.size ≤ b) 28 1 v6 (L ++ [rIntS (nI VS)]) (xs ++ [.slice Av nvv cv]) from
     GrowI.push (Q := fun j b => j = 0 ∧ New wr w5 b) HG.out (H5.out.alloc (by omega) _) (Nat.le_refl _) (fun b hb => .inr (by omega)) (by rw [hLl]; exact hown6) hgrow6 hblk6 rfl (fun j b hb => ⟨hb.2.1, by have h1 : b < w5.heap.size := hb.2.2; simp; omega⟩) (fun j j' b h1 h2 => h1.1.trans h2.1.symm) (fun j f hf => by
      match j, hf with
      | 0, hf => simp [rIntS] at hf; subst hf; exact ⟨_, rfl, (HQv.out.alloc (fun b hb => hb.2) _).mono (fun b hb => ⟨rfl, hb⟩)⟩
      | j + 1, hf => simp [rIntS] at hf))
    have HBw6 := Lib.hid (HB0.out.trans (HB6.out.mono (by omega)))
    have hv6 := fun g hg => (HG6.out.own.lt g hg)
    have hv6I := fun g hg => (HG6.out.ownI g hg)
    have Hv6 := Lib.hid hv6
    have Hv6I := Lib.hid hv6I
    have z56 : w5.heap.size ≤ w6.heap.size := by have := hgrow6.size; simp at this; omega
    clear hown6 hgrow6 hblk6 hg6 hg6r hv6 hv6I ei
    go_wp2_with fail
    go_cut [8, 9] from 18 to 44 (fun pv _ wc => ∃ (gx : Nat) (R0 : Option Addr) (r0 f0 : Nat) (R1 : Option Addr) (r1 f1 : Nat), pv = .pointer (some ⟨gx, 0, none⟩) ∧ (w6.heap.size ≤ gx ∧ gx < wc.heap.size) ∧ Blk wc gx 33 #[.slice R0 r0 f0, .slice R1 r1 f1] ∧ RWordState wc (fun b => (w6.heap.size ≤ b ∧ b < wc.heap.size) ∧ b ≠ gx) (.agg #[.slice R0 r0 f0, .slice R1 r1 f1]) (nextN m (cycS m ins k).2 VS) ∧ Below w6.heap.size w6 wc)
    case first =>
     refine wp_region_treeP (.node [] 6 10 (.leaf [0, 1, 2, 3, 4, 5, 6, 10, 7, 8, 9, 11, 12]) (.leaf [10, 0, 1, 2, 3, 4, 5, 6, 7, 8, 9, 11, 12])) (by kernel_rfl) (by kernel_rfl) (fun x => Below w6.heap.size w6 x) ((Below.refl _ _).drew) (fun lexNE => ?_)
     simp only [LexT, ordOps, List.filterMap_cons, List.filterMap_nil, List.getElem?_cons_zero, List.getElem?_cons_succ]
     obtain ⟨cm0, cm1, cm2, cm3⟩ := bwS4 (B := w6.heap.size) HX6.out HX6.out.lt
     obtain ⟨cs0, cs1⟩ := bwS2 (B := w6.heap.size) HS6.out HS6.out.lt
     have ci := wcell (B := w6.heap.size) ei6 (by rw [block_of_add]; omega)
     obtain ⟨D, hD⟩ : ∃ D, D = w6.drew := ⟨_, rfl⟩
     rw [← hD]
     have zD : w6.heap.size ≤ D.heap.size := by rw [hD]; exact Nat.le_refl _
     have HA := Lib.hid (show Below w6.heap.size w6 D by rw [hD]; exact (Below.refl _ _).drew)
     clear hD
     (refine lex_nil ?_)
     refine ⟨Cls.mk' HA.out, ?_, ?_⟩
     ·(repeat (first | (refine lex_r fun K hK => ?_; go_big_quiet_op; refine hK _ ?_; clear hK K) | (refine lex_k fun K hK => ?_; go_simp; refine hK _ ?_; clear hK K)))
      (refine lex_e fun K hK => ?_; go_big_op)
      refine (s_FlatStep hz (RModule.under H.out hS (HBw6.out.trans (HA.out.mono (by omega)))) (fun b hb => by have := hS b hb; omega) (RWordState.under HSt6.out (fun b hb => by have h1 : b < wr.heap.size := hb.1; omega) HA.out) (fun b hb => by have h1 : b < wr.heap.size := hb.1; omega) (Hins6.out.under (fun b hb => by have := hS4 b hb; omega) HA.out) (fun b hb => by have := hS4 b hb; omega)).mono ?_
      rintro e D1 ⟨v1, v2, T1, T2, rfl, hs1, hs2, hdj, hq1, hq2, hbc⟩
      obtain ⟨R0, r0, f0, R1, r1, f1, rfl⟩ := hq1.r.form
      obtain ⟨O0, o0, oc, rfl⟩ := slv_of hq2.rep
      rw [stp_yes HSO.out, ← HVS.out] at hq1
      have HQn := Lib.hid (hq1.r.mono (S' := fun b => D.heap.size ≤ b ∧ b < D1.heap.size) (fun b hb => hs1 b hb))
      (try have HXa := Lib.hid (HXa.out.below hbc HXa.out.lt))
      have zD1 := hbc.size
      have HA := Lib.hid (HA.out.trans (hbc.mono (by omega)))
      refine hK _ _ (Cls.mk' HA.out) ?_
      clear hK K hbc hq1 hq2 hdj hs1 hs2
      (repeat (first | (refine lex_r fun K hK => ?_; go_big_quiet_op; refine hK _ ?_; clear hK K) | (refine lex_k fun K hK => ?_; go_simp; refine hK _ ?_; clear hK K)))
      (refine lex_e fun K hK => ?_; go_big_op)
      obtain ⟨D2, hD2⟩ : ∃ x, x = D1.alloc (.cells #[.slice none 0 0, .slice none 0 0] 33) := ⟨_, rfl⟩
      rw [← hD2]
      have bD2 : Below D1.heap.size D1 D2 := by rw [hD2]; exact (Below.refl _ _).alloc (Nat.le_refl _) _
      have zD2 : D1.heap.size + 1 ≤ D2.heap.size := by rw [hD2]; simp
      obtain ⟨gx, hgx⟩ : ∃ g, g = D1.heap.size := ⟨_, rfl⟩
      have HXa := Lib.hid (show Blk D2 gx 33 #[.slice none 0 0, .slice none 0 0] by rw [hD2, hgx]; exact Blk.new _ _ _)
      rw [← hgx]
      have gxa : D1.heap.size ≤ gx := by omega
      have gxb : gx < D2.heap.size := by omega
      have HA := Lib.hid (HA.out.trans (bD2.mono (by omega)))
      (try have HQn := Lib.hid (HQn.out.under (fun b hb => hb.2) bD2))
      refine hK _ _ (Cls.mk' HA.out) ?_
      clear hK K hD2 bD2 hgx
      obtain ⟨q0, q1⟩ := blkS2 HXa.out
      have fz0 := HXa.out.frozen 0
      have fz1 := HXa.out.frozen 1
      (repeat (first | (refine lex_r fun K hK => ?_; go_big_quiet_op; refine hK _ ?_; clear hK K) | (refine lex_k fun K hK => ?_; go_simp; refine hK _ ?_; clear hK K)))
      (refine lex_e fun K hK => ?_; go_big_op)
      obtain ⟨wx, hwx⟩ : ∃ x, x = ((D2.setCell ⟨gx, 0, none⟩ (.slice R0 r0 f0)).setCell ⟨gx, 1, none⟩ (.slice R1 r1 f1)) := ⟨_, rfl⟩
      rw [← hwx]
      have HA := Lib.hid (show Below w6.heap.size w6 wx by rw [hwx]; exact (HA.out.setCell (by show w6.heap.size ≤ gx; omega) _).setCell (by show w6.heap.size ≤ gx; omega) _)
      refine hK _ _ (Cls.mk' HA.out) ?_
      clear hK K q0 q1 fz0 fz1
      (repeat (first | (refine lex_r fun K hK => ?_; go_big_quiet_op; refine hK _ ?_; clear hK K) | (refine lex_k fun K hK => ?_; go_simp; refine hK _ ?_; clear hK K)))
      (refine lex_nil ?_)
      refine ⟨Cls.mk' HA.out, ?_⟩
      clear lexNE cm0 cm1 cm2 cm3 cs0 cs1 ci
      go_wp2_with fail
      go_meet
      case rel =>
       have hk2 : ∀ b, b ≠ gx → wx.heap[b]? = D2.heap[b]? := fun b hb => by
        rw [hwx]
        exact (Below.heap_setCell _ ⟨gx, 1, none⟩ _ b hb).trans (Below.heap_setCell _ ⟨gx, 0, none⟩ _ b hb)
       have hsf : wx.heap.size = D2.heap.size := by rw [hwx]; simp [World.setCell]
       refine ⟨gx, R0, r0, f0, R1, r1, f1, rfl, ⟨by omega, by omega⟩, by rw [hwx]; exact blk_two HXa.out, ?_, HA.out⟩
       exact (HQn.out.keep (w' := wx) (fun p hp => World.cell?_of_block (hk2 _ (by have h1 := hp.1; have h2 := hp.2; omega)))).mono (fun b hb => by have h1 := hb.1; have h2 := hb.2; exact ⟨⟨by omega, by omega⟩, by omega⟩)
     ·(repeat (first | (refine lex_r fun K hK => ?_; go_big_quiet_op; refine hK _ ?_; clear hK K) | (refine lex_k fun K hK => ?_; go_simp; refine hK _ ?_; clear hK K)))
      (refine lex_e fun K hK => ?_; go_big_op)
      obtain ⟨D1, hD1⟩ : ∃ x, x = D.alloc (.cells #[.slice none 0 0, .slice none 0 0] 33) := ⟨_, rfl⟩
      rw [← hD1]
      have bD1 : Below D.heap.size D D1 := by rw [hD1]; exact (Below.refl _ _).alloc (Nat.le_refl _) _
      have zD1 : D.heap.size + 1 ≤ D1.heap.size := by rw [hD1]; simp
      obtain ⟨gx, hgx⟩ : ∃ g, g = D.heap.size := ⟨_, rfl⟩
      have HXa := Lib.hid (show Blk D1 gx 33 #[.slice none 0 0, .slice none 0 0] by rw [hD1, hgx]; exact Blk.new _ _ _)
      rw [← hgx]
      have gxa : D.heap.size ≤ gx := by omega
      have gxb : gx < D1.heap.size := by omega
      have HA := Lib.hid (HA.out.trans (bD1.mono (by omega)))
      (try have HQn := Lib.hid (HQn.out.under (fun b hb => hb.2) bD1))
      refine hK _ _ (Cls.mk' HA.out) ?_
      clear hK K hD1 bD1 hgx
      (repeat (first | (refine lex_r fun K hK => ?_; go_big_quiet_op; refine hK _ ?_; clear hK K) | (refine lex_k fun K hK => ?_; go_simp; refine hK _ ?_; clear hK K)))
      (refine lex_e fun K hK => ?_; go_big_op)
      refine (s_FlatStep hz (RModule.under H.out hS (HBw6.out.trans (HA.out.mono (by omega)))) (fun b hb => by have := hS b hb; omega) (RWordState.under HSt6.out (fun b hb => by have h1 : b < wr.heap.size := hb.1; omega) HA.out) (fun b hb => by have h1 : b < wr.heap.size := hb.1; omega) (Hins6.out.under (fun b hb => by have := hS4 b hb; omega) HA.out) (fun b hb => by have := hS4 b hb; omega)).mono ?_
      rintro e D2 ⟨v1, v2, T1, T2, rfl, hs1, hs2, hdj, hq1, hq2, hbc⟩
      obtain ⟨R0, r0, f0, R1, r1, f1, rfl⟩ := hq1.r.form
      obtain ⟨O0, o0, oc, rfl⟩ := slv_of hq2.rep
      rw [stp_yes HSO.out, ← HVS.out] at hq1
      have HQn := Lib.hid (hq1.r.mono (S' := fun b => D1.heap.size ≤ b ∧ b < D2.heap.size) (fun b hb => hs1 b hb))
      (try have HXa := Lib.hid (HXa.out.below hbc HXa.out.lt))
      have zD2 := hbc.size
      have HA := Lib.hid (HA.out.trans (hbc.mono (by omega)))
      refine hK _ _ (Cls.mk' HA.out) ?_
      clear hK K hbc hq1 hq2 hdj hs1 hs2
      obtain ⟨q0, q1⟩ := blkS2 HXa.out
      have fz0 := HXa.out.frozen 0
      have fz1 := HXa.out.frozen 1
      (repeat (first | (refine lex_r fun K hK => ?_; go_big_quiet_op; refine hK _ ?_; clear hK K) | (refine lex_k fun K hK => ?_; go_simp; refine hK _ ?_; clear hK K)))
      (refine lex_e fun K hK => ?_; go_big_op)
      obtain ⟨wx, hwx⟩ : ∃ x, x = ((D2.setCell ⟨gx, 0, none⟩ (.slice R0 r0 f0)).setCell ⟨gx, 1, none⟩ (.slice R1 r1 f1)) := ⟨_, rfl⟩
      rw [← hwx]
      have HA := Lib.hid (show Below w6.heap.size w6 wx by rw [hwx]; exact (HA.out.setCell (by show w6.heap.size ≤ gx; omega) _).setCell (by show w6.heap.size ≤ gx; omega) _)
      refine hK _ _ (Cls.mk' HA.out) ?_
      clear hK K q0 q1 fz0 fz1
      (repeat (first | (refine lex_r fun K hK => ?_; go_big_quiet_op; refine hK _ ?_; clear hK K) | (refine lex_k fun K hK => ?_; go_simp; refine hK _ ?_; clear hK K)))
      (refine lex_nil ?_)
      refine ⟨Cls.mk' HA.out, ?_⟩
      clear lexNE cm0 cm1 cm2 cm3 cs0 cs1 ci
      go_wp2_with fail
      go_meet
      case rel =>
       have hk2 : ∀ b, b ≠ gx → wx.heap[b]? = D2.heap[b]? := fun b hb => by
        rw [hwx]
        exact (Below.heap_setCell _ ⟨gx, 1, none⟩ _ b hb).trans (Below.heap_setCell _ ⟨gx, 0, none⟩ _ b hb)
       have hsf : wx.heap.size = D2.heap.size := by rw [hwx]; simp [World.setCell]
       refine ⟨gx, R0, r0, f0, R1, r1, f1, rfl, ⟨by omega, by omega⟩, by rw [hwx]; exact blk_two HXa.out, ?_, HA.out⟩
       exact (HQn.out.keep (w' := wx) (fun p hp => World.cell?_of_block (hk2 _ (by have h1 := hp.1; have h2 := hp.2; omega)))).mono (fun b hb => by have h1 := hb.1; have h2 := hb.2; exact ⟨⟨by omega, by omega⟩, by omega⟩)
    case rest =>
     obtain ⟨gx, R0, r0, f0, R1, r1, f1, rfl, ⟨hx1, hx2⟩, hbx, hqx, hbc⟩ := hcut
     have HSc := Lib.hid (HS6.out.below hbc HS6.out.lt)
     have HGc := Lib.hid (HG6.out.below hbc (Nat.le_refl _))
     have HQx := Lib.hid hqx
     have HBc := Lib.hid (HB6.out.trans (hbc.mono (by omega)))
     have zzc := hbc.size
     obtain ⟨q0, q1⟩ := blkS2 hbx
     obtain ⟨z0, z1⟩ := blkS2 HSc.out
     have fz0 := HSc.out.frozen 0
     have fz1 := HSc.out.frozen 1
     clear hbc hqx hbx
     go_wp2_with fail
     obtain ⟨wf, hwf⟩ : ∃ wf, wf = ((wc.setCell ⟨w2.heap.size, 0, none⟩ (.slice R0 r0 f0)).setCell ⟨w2.heap.size, 1, none⟩ (.slice R1 r1 f1)) := ⟨_, rfl⟩
     have hk2 : ∀ b, b ≠ w2.heap.size → wf.heap[b]? = wc.heap[b]? := fun b hb => by
      rw [hwf]
      exact (Below.heap_setCell _ ⟨w2.heap.size, 1, none⟩ _ b hb).trans (Below.heap_setCell _ ⟨w2.heap.size, 0, none⟩ _ b hb)
     have hsf : wf.heap.size = wc.heap.size := by rw [hwf]; simp [World.setCell]
     have HSf := Lib.hid (show Blk wf w2.heap.size 33 #[.slice R0 r0 f0, .slice R1 r1 f1] by rw [hwf]; exact blk_two HSc.out)
     have HBf := Lib.hid (show Below U0.heap.size U0 wf by rw [hwf]; exact (HBc.out.setCell (by show U0.heap.size ≤ w2.heap.size; omega) _).setCell (by show U0.heap.size ≤ w2.heap.size; omega) _)
     rw [← hwf]
     have Hk2 := Lib.hid hk2
     have Hsf := Lib.hid hsf
     clear hwf hk2 hsf z0 z1 fz0 fz1 q0 q1
     go_roundw
     case rel =>
      have hsf := Hsf.out
      refine ⟨k + 1, _, _, _, by omega, by go_num, by rw [HTS.out]; exact HGc.out.keep (fun b h1 _ => Hk2.out b (by omega)) (by omega), HSf.out, ?_, HBf.out, by omega⟩
      rw [HCS.out]
      refine (HQx.out.keep (w' := wf) (fun p hp => World.cell?_of_block (Hk2.out _ (by have h1 := hp.1.1; omega)))).mono (fun b hb => ⟨by have := hb.1.2; omega, fun h1 => by have h2 := (Hv6.out b h1).2; have h3 := hb.1.1; omega, by have h3 := hb.1.1; omega⟩)
     case measure => simp [intOf]; omega
   ·have hge : (nx : Int) ≤ (k : Int) := by omega
    have hkn : k = nx := by omega
    go_wp2_with fail
    go_ret
    refine ⟨_, rfl, ?_, Hbw.out⟩
    rw [trc_yes HR.out, Hnx.out, ← hkn]
    show Sep wr _ _ (.sl ((trcK m ins k).map rIntS))
    rw [← HL.out]
    exact (HG.out.sep hLl (by unfold maxLen; omega)).mono (fun b hb => ⟨by have := hb.1; omega, hb.2⟩)
end Go.Proofs.Ytjkdgedgfkgjdaa
