/- Contracts: all cycles of a flat module: the program's functions. -/
import Derived.Test.YtjkdgedgfkgjdaaGreatTrcP
import Derived.Test.YtjkdgedgfkgjdaaGreatGrw
import Derived.Test.YtjkdgedgfkgjdaaGreatIntSSD
import Derived.Test.YtjkdgedgfkgjdaaGreatStpA
import Derived.Test.YtjkdgedgfkgjdaaGreatStpB
import Derived.Test.YtjkdgedgfkgjdaaGreatSigC
import Derived.Outline
namespace Go.Proofs.YtjkdgedgfkgjdaaGreat
open Go.RowKit

theorem sep_nil2 (w : World) (S : Nat → Prop) : Sep w S (.slice none 0 0) (.sl []) :=
 (RowsOf.nil w (fun _ => False) 1 []).sep (S' := S) (e := 3) rfl (Nat.zero_le _) (fun _ h => by simp at h) (World.ownsRow_nil w 0 3 1) (fun g hg => by simp [Value.ownBlock] at hg) (fun _ h => h.elim)
theorem runB_flat {m : TModule} {ins : List (List Int)} (h : flatB m = false) : runB m ins = false := by unfold runB; rw [h]; rfl
theorem runB_many {m : TModule} {ins : List (List Int)} (h : ¬ ins.length ≤ 16) : runB m ins = false := by unfold runB; rw [decide_eq_false h]; simp
theorem runB_row {m : TModule} {ins : List (List Int)} {k : Nat} {x : List Int} (h : ins[k]? = some x) (hx : ¬ x.length = (widthsM m 0).length) : runB m ins = false := by
 unfold runB
 rw [all_not h (decide_eq_false hx)]
 simp
theorem runB_yes {m : TModule} {ins : List (List Int)} (h1 : flatB m = true) (h2 : ins.length ≤ 16) (h3 : ins.all (fun x => decide (x.length = (widthsM m 0).length)) = true) : runB m ins = true := by
 unfold runB
 rw [h1, h3, decide_eq_true h2]
 rfl
theorem trc_no {m : TModule} {ins : List (List Int)} (h : runB m ins = false) : trcL m ins = [] := by unfold trcL; rw [h]; rfl
theorem trc_yes {m : TModule} {ins : List (List Int)} (h : runB m ins = true) : trcL m ins = trcK m ins ins.length := by unfold trcL; rw [h]; rfl
set_option maxRecDepth 100000 in
set_option maxHeartbeats 16000000 in
theorem i_flatCycles {w : World} {S S4 : Nat → Prop} {v : Value} {Ai : Option Addr} {nx ci : Nat} {m : TModule} {ins : List (List Int)} (hz : sModule m ≤ 1048576)
  (h : RModule w S v m) (hS : ∀ b, S b → b < w.heap.size) (hin : Rep w S4 (.slice Ai nx ci) (fIntSS ins)) (hS4 : ∀ b, S4 b → b < w.heap.size) :
  Calls Tryz.prog 28 #[v, .slice Ai nx ci] w fun e w' => ∃ v', e = .returned (.tuple #[v', .bool (runB m ins)]) ∧ Sep w' (New w w') v' (fIntSS (trcL m ins)) ∧ Below w.heap.size w w' := by
 obtain ⟨i0, hi, hz0, hz1, hz2⟩ := info_parts Tryz.infIntS
 have hnx := hin.len
 rw [List.length_map] at hnx
 have Hins := Lib.hid hin
 have Hnx := Lib.hid hnx
 clear hin
 obtain ⟨A0, c0, A1, c1, A2, c2, A3, c3, rfl, hSg, hAs, -, hMe, hm0, hm1, hm2, hm3⟩ := mod_open h
 obtain ⟨ns, hns⟩ : ∃ ns, m.1.length = ns := ⟨_, rfl⟩
 obtain ⟨na, hna⟩ : ∃ na, m.2.1.length = na := ⟨_, rfl⟩
 obtain ⟨ni, hni⟩ : ∃ ni, m.2.2.1.length = ni := ⟨_, rfl⟩
 obtain ⟨nm, hnm⟩ : ∃ nm, m.2.2.2.length = nm := ⟨_, rfl⟩
 rw [hns, hna, hni, hnm] at h ⊢
 rw [hns] at hSg hm0
 rw [hna] at hAs hm1
 rw [hni] at hm2
 rw [hnm] at hMe hm3
 unfold maxLen at hm0 hm1 hm2 hm3
 have Hn := Lib.hid (And.intro hns (And.intro hna (And.intro hni hnm)))
 have H := Lib.hid h
 have HSg := Lib.hid hSg
 have HAs := Lib.hid hAs
 have HMe := Lib.hid hMe
 have HB0 := Lib.hid ((Below.refl w.heap.size w).alloc (Nat.le_refl _) (.cells #[.slice A0 ns c0, .slice A1 na c1, .slice A2 ni c2, .slice A3 nm c3] 37))
 have HX0 := Lib.hid (Blk.new w 37 #[.slice A0 ns c0, .slice A1 na c1, .slice A2 ni c2, .slice A3 nm c3])
 clear hns hna hnm hni h hSg hAs hMe
 go_enter Tryz.func28, Tryz.ntmps28
 obtain ⟨y0, y1, y2, y3⟩ := blkS4 HX0.out
 go_wp2_with fail
 obtain ⟨U0, hU0⟩ : ∃ U0, U0 = w.alloc (.cells #[.slice A0 ns c0, .slice A1 na c1, .slice A2 ni c2, .slice A3 nm c3] 37) := ⟨_, rfl⟩
 have hu0 : w.heap.size < U0.heap.size := by rw [hU0]; simp
 rw [← hU0] at HB0 HX0 ⊢
 clear hU0 y0 y1 y2 y3
 refine (i_FlatOk hz (RModule.under H.out hS HB0.out) (fun b hb => by have := hS b hb; omega)).mono ?_
 rintro e w1 ⟨rfl, hb1⟩
 have HB1 := Lib.hid (HB0.out.trans (hb1.mono (by omega)))
 have HXM1 := Lib.hid (HX0.out.below hb1 HX0.out.lt)
 have zz1 := hb1.size
 clear hb1
 cases hf : flatB m with
 | false =>
  have HR := Lib.hid (runB_flat (ins := ins) hf)
  clear hf
  go_wp2_with fail
  go_ret2
  refine ⟨_, ret_tup2 HR.out, ?_, HB1.out⟩
  rw [trc_no HR.out]
  exact sep_nil2 _ _
 | true =>
  have HF := Lib.hid hf
  clear hf
  by_cases h16 : nx ≤ 16
  rotate_left
  ·have HR := Lib.hid (runB_many (m := m) (ins := ins) (by omega))
   have h16' : (16 : Int) < (nx : Int) := by omega
   clear h16 hnx
   go_wp2_with fail
   go_ret2
   refine ⟨_, ret_tup2 HR.out, ?_, HB1.out⟩
   rw [trc_no HR.out]
   exact sep_nil2 _ _
  have h16' : ¬ (16 : Int) < (nx : Int) := by omega
  obtain ⟨y0, y1, y2, y3⟩ := blkS4 HXM1.out
  go_wp2_with fail
  refine (i_PortWidths 0 (RModule.under H.out hS HB1.out) (fun b hb => by have := hS b hb; omega)).mono ?_
  rintro e w2 ⟨v3, rfl, hq3, hb2⟩
  obtain ⟨A3', c3', rfl, _, _⟩ := sl_form hq3.rep (List.length_map _)
  obtain ⟨np, hnp⟩ : ∃ np, (widthsM m 0).length = np := ⟨_, rfl⟩
  rw [hnp]
  have Hnp := Lib.hid hnp
  have HB2 := Lib.hid (HB1.out.trans (hb2.mono (by omega)))
  have HXM2 := Lib.hid (HXM1.out.below hb2 HXM1.out.lt)
  have zz2 := hb2.size
  clear hb2 hq3 hnp y0 y1 y2 y3
  go_wp2_with fail
  go_loopw [8, 29] (fun _ iv wr => ∃ k : Nat, k ≤ nx ∧ iv = .int .i64 k ∧ Hid ((ins.take k).all (fun x => decide (x.length = (widthsM m 0).length)) = true) ∧ Below w2.heap.size w2 wr) (fun _ iv _ => nx - (intOf iv).toNat)
  case atStart => exact ⟨0, Nat.zero_le _, rfl, Lib.hid rfl, Below.refl _ _⟩
  case round =>
   obtain ⟨k, hk, rfl, Hal, hb⟩ := hrel
   have Hb := Lib.hid hb
   have hsz := hb.size
   have Hbw := Lib.hid (HB2.out.trans (hb.mono (by omega)))
   have HXr := Lib.hid (HXM2.out.below hb HXM2.out.lt)
   have g1 : (0 : Int) ≤ (k : Int) := by omega
   clear hb
   by_cases hlt : k < nx
   ·obtain ⟨ad, x, v0, rfl, hab, hx, hr, e0⟩ := fIntSS_row (Hins.out.under hS4 Hbw.out) hlt
    obtain ⟨Ax, nl, cx, rfl⟩ := slv_of hr
    have hnl := hr.len
    rw [List.length_map] at hnl
    have g2 : (k : Int) < (nx : Int) := by omega
    by_cases hl : nl = np
    ·have hl' : ((nl : Int) != (np : Int)) = false := by simp; omega
     have Hs := Lib.hid (all_take (p := fun x => decide (x.length = (widthsM m 0).length)) hx)
     have Hxl := Lib.hid (show decide (x.length = (widthsM m 0).length) = true from decide_eq_true (by rw [hnl, Hnp.out, hl]))
     subst hl
     clear hx hr hnl hl'
     go_wp2_with fail
     go_roundw
     case rel => exact ⟨k + 1, by omega, by go_num, Lib.hid (by rw [Hs.out, Hal.out, Hxl.out]; rfl), Hb.out⟩
     case measure => simp [intOf]; omega
    ·have hl' : ((nl : Int) != (np : Int)) = true := by simp; omega
     have HR := Lib.hid (runB_row (m := m) hx (by rw [hnl, Hnp.out]; exact hl))
     clear hx hr hnl hl
     go_wp2_with fail
     go_ret2
     refine ⟨_, ret_tup2 HR.out, ?_, Hbw.out⟩
     rw [trc_no HR.out]
     exact sep_nil2 _ _
   ·have hge : (nx : Int) ≤ (k : Int) := by omega
    have HR := Lib.hid (runB_yes (m := m) (ins := ins) HF.out (by omega) (by have h1 := Hal.out; rw [List.take_of_length_le (by omega)] at h1; exact h1))
    obtain ⟨wl, hwl⟩ : ∃ wl, wl = wr := ⟨_, rfl⟩
    subst hwl
    obtain ⟨y0, y1, y2, y3⟩ := blkS4 HXr.out
    go_wp2_with fail
    refine (i_EvalOrder hz (RModule.under H.out hS Hbw.out) (fun b hb => by have := hS b hb; omega)).mono ?_
    rintro e w3 ⟨vo, rfl, hqo, hb3⟩
    obtain ⟨Ao, no, co, rfl⟩ := slv_of hqo.rep
    have hro : ordL m = nI (ordN m) := rfl
    rw [hro] at hqo
    have HQo := Lib.hid hqo.rep
    have HB3 := Lib.hid (Hbw.out.trans (hb3.mono (by omega)))
    have HXM3 := Lib.hid (HXr.out.below hb3 HXr.out.lt)
    have zz3 := hb3.size
    clear hqo hb3 hro y0 y1 y2 y3 Hal hge
    obtain ⟨y0, y1, y2, y3⟩ := blkS4 HXM3.out
    go_wp2_with fail
    refine (i_flatStart HF.out (RModule.under H.out hS HB3.out) (fun b hb => by have := hS b hb; omega)).mono ?_
    rintro e w4 ⟨vs, rfl, hqs, hb4⟩
    obtain ⟨Q0, q0, d0, Q1, q1, d1, rfl⟩ := hqs.r.form
    have HB4 := Lib.hid (HB3.out.trans (hb4.mono (by omega)))
    have HXM4 := Lib.hid (HXM3.out.below hb4 HXM3.out.lt)
    have HQo4 := Lib.hid (HQo.out.under (fun b hb => hb.2) hb4)
    have HQs := Lib.hid hqs.r
    have zz4 := hb4.size
    obtain ⟨U4, hU4⟩ : ∃ U4, U4 = w4.alloc (.cells #[.slice Q0 q0 d0, .slice Q1 q1 d1] 52) := ⟨_, rfl⟩
    have hu4 : w4.heap.size + 1 = U4.heap.size := by rw [hU4]; simp
    have HU4 := Lib.hid hU4
    have HW4 := Lib.hid (show Below w4.heap.size w4 U4 by rw [hU4]; exact (Below.refl _ _).alloc (Nat.le_refl _) _)
    have HXS4 := Lib.hid (show Blk U4 w4.heap.size 52 #[.slice Q0 q0 d0, .slice Q1 q1 d1] by rw [hU4]; exact Blk.new _ _ _)
    have HZ4 := Lib.hid hu4
    have hlu : w4.heap.size < U4.heap.size := by omega
    clear hqs hb4 y0 y1 y2 y3 hU4 hu4
    go_wp2_with fail
    rw [← HU4.out]
    go_loopw [12, 14, 15, 47] (fun ov _ _ iv wr => ∃ (k : Nat) (xs : List Value) (s0 s1 : Value), k ≤ nx ∧ iv = .int .i64 k ∧ Grow wr U4.heap.size 49 1 ov ((trcK m ins k).map rIntS) xs ∧ Blk wr w4.heap.size 52 #[s0, s1] ∧ RWordState wr (fun b => b < wr.heap.size ∧ ov.ownBlock ≠ some b ∧ b ≠ w4.heap.size) (.agg #[s0, s1]) (cycS m ins k) ∧ Below w4.heap.size w4 wr ∧ U4.heap.size ≤ wr.heap.size) (fun _ _ _ iv _ => nx - (intOf iv).toNat)
    case atStart => exact ⟨0, [], _, _, Nat.zero_le _, rfl, Grow.nil _ _ _ _, HXS4.out, (RWordState.under HQs.out (fun b hb => hb.2) HW4.out).mono (fun b hb => ⟨by have := hb.2; omega, by simp [Value.ownBlock], by have := hb.2; omega⟩), HW4.out, Nat.le_refl _⟩
    case round =>
     obtain ⟨k, xs, s0, s1, hk, rfl, hgr, hbs, hst, hb, hu⟩ := hrel
     obtain ⟨S0, p0, e0, S1, p1, e1, hse⟩ := hst.form
     injection hse with hse
     injection hse with hse
     injection hse with hs0 hse
     injection hse with hs1 _
     subst hs0 hs1
     have Hb := Lib.hid hb
     have hsz := hb.size
     have Hbw := Lib.hid (HB4.out.trans (hb.mono (by omega)))
     have HXr := Lib.hid (HXM4.out.below hb HXM4.out.lt)
     have HSr := Lib.hid hbs
     have HSt := Lib.hid hst
     have HG := Lib.hid hgr
     have HQr := Lib.hid (HQo4.out.under (fun b hb => by have := hb.2; omega) hb)
     have g1 : (0 : Int) ≤ (k : Int) := by omega
     have hrl := hgr.own.1
     obtain ⟨L, hL⟩ : ∃ L, L = (trcK m ins k).map rIntS := ⟨_, rfl⟩
     have hLl : L.length = k := by rw [hL, List.length_map, trcK_len]
     rw [← hL] at HG
     have HL := Lib.hid hL
     have hown := HG.out.own
     rw [hLl] at hown
     obtain ⟨A, c, rfl, _, _, _⟩ := own_form hown
     have Hown := Lib.hid hown
     clear hb hbs hst hgr hL hown hrl
     by_cases hlt : k < nx
     ·obtain ⟨ad, x, v0, rfl, hab, hx, hr, e0'⟩ := fIntSS_row (Hins.out.under hS4 Hbw.out) hlt
      obtain ⟨Ax, nl, cx, rfl⟩ := slv_of hr
      have g2 : (k : Int) < (nx : Int) := by omega
      have hxl := (runB_iff HR.out).2.2 x (List.mem_of_getElem? hx)
      have Hgd := Lib.hid (show ins.getD k [] = x by rw [List.getD_eq_getElem?_getD, hx]; rfl)
      have Hxl := Lib.hid hxl
      have Hr := Lib.hid hr
      have HWS := Lib.hid (cyc_ws (ins := ins) HF.out k)
      obtain ⟨y0, y1, y2, y3⟩ := blkS4 HXr.out
      obtain ⟨z0, z1⟩ := blkS2 HSr.out
      clear hx hr hxl
      go_wp2_with fail
      refine (i_signalValues HWS.out Hxl.out (RModule.under H.out hS Hbw.out) (fun b hb => by have := hS b hb; omega) HQr.out (fun b hb => by have := hb.2; omega) HSt.out (fun b hb => hb.1) Hr.out (fun b hb => by have := hS4 b hb; omega)).mono ?_
      rintro e w5 ⟨vv, rfl, hqv, hb5⟩
      obtain ⟨VS, hVS⟩ : ∃ VS, VS = sigN m (cycS m ins k) x := ⟨_, rfl⟩
      rw [← hVS] at hqv
      have hvl : VS.length = m.1.length := by rw [hVS]; exact sigN_len _ _
      have hwb : WB m VS := by rw [hVS]; exact sigN_wb HWS.out x
      obtain ⟨Av, nvv, cv, rfl⟩ := slv_of hqv.rep
      have hnv : VS.length = nvv := by have h1 := hqv.rep.len; rw [List.length_map, nI_len] at h1; exact h1
      obtain rfl := hnv
      have hcyc : cycV m ins k = VS := by unfold cycV; rw [Hgd.out, hVS]
      have HTS := Lib.hid (show (trcK m ins (k + 1)).map rIntS = L ++ [rIntS (nI VS)] by rw [trcK_succ, List.map_append, ← HL.out, hcyc]; rfl)
      have HCS := Lib.hid (show cycS m ins (k + 1) = nextN m (cycS m ins k).2 VS by show nextN m (cycS m ins k).2 (sigN m (cycS m ins k) (ins.getD k [])) = _; rw [Hgd.out, hVS])
      have HB5 := Lib.hid hb5
      have HQv := Lib.hid hqv
      have Hvl := Lib.hid hvl
      have Hwb := Lib.hid hwb
      have zz5 := hb5.size
      have HX5 := Lib.hid (HXr.out.below hb5 HXr.out.lt)
      have HS5 := Lib.hid (HSr.out.below hb5 HSr.out.lt)
      have HSt5 := Lib.hid (HSt.out.under (fun b hb => hb.1) hb5)
      have Hown5 := Lib.hid (own_below Hown.out hb5 (Nat.le_refl _))
      have hslt := HSr.out.lt
      have hgA := fun g hg => (Hown.out.lt g hg)
      clear hb5 hqv hvl hwb hVS hcyc y0 y1 y2 y3 z0 z1
      go_wp2_with (at_builtin; refine wpList_append_any _ rfl _ _ 28 rfl (U4.heap.size) 49 i0 (.slice none 0 0) 1 24 Tryz.underlying28 hi hz0 hz1 hz2 rfl (by decide) _ _ _ rfl (Hown5.out.alloc _) _ _ 1 1 _ rfl (reads_new _ _ 1 1 rfl) (by intro u hu; simp at hu; first | (subst hu; rfl) | (rcases hu with rfl | rfl <;> rfl) | (rcases hu with rfl | rfl | rfl <;> rfl)) (by unfold maxLen; omega) (by omega) (by (try simp) <;> (try omega)) ?_; intro v6 w6 hown6 hgrow6 hblk6; refine stopX ?_)
      refine stopped ?_
      have HB6 := Lib.hid (below_push (Hb.out.trans (HB5.out.mono (by omega))) Hown5.out (by omega) (by omega) hgrow6)
      have HX6 := Lib.hid (HXM4.out.below HB6.out HXM4.out.lt)
      have hg6 : ∀ b, b < w5.heap.size → (Value.slice A k c).ownBlock ≠ some b → w6.heap[b]? = w5.heap[b]? := fun b h1 h2 => (hgrow6.block b (by simp; omega) (fun e => h2 e.symm)).trans (Below.heap_alloc w5 _ b h1)
      have HS6 := Lib.hid (show Blk w6 w4.heap.size 52 #[.slice S0 p0 e0, .slice S1 p1 e1] from (hg6 _ (by omega) (fun h1 => by have := hgA _ h1; omega)).trans HS5.out)
      have HSt6 := Lib.hid (HSt5.out.keep (w' := w6) (fun p hp => World.cell?_of_block (hg6 _ (by have := hp.1; omega) hp.2.1)))
      have HQ6 := Lib.hid (HQv.out.rep.keep (w' := w6) (fun p hp => World.cell?_of_block (hg6 _ hp.2 (fun h1 => by have h2 := hgA _ h1; have h3 : wr.heap.size ≤ p.block := hp.1; omega))))
      have HG6 := Lib.hid (show Grow w6 U4.heap.size 49 1 v6 (L ++ [rIntS (nI VS)]) (xs ++ [.slice Av VS.length cv]) from
       Grow.push (Q := fun j b => j = 0 ∧ New wr w5 b) HG.out (HB5.out.alloc (by omega) _) (Nat.le_refl _) hu (by rw [hLl]; exact hown6) hgrow6 hblk6 rfl (fun j b hb => ⟨hb.2.1, by have h1 : b < w5.heap.size := hb.2.2; simp; omega⟩) (fun j j' b h1 h2 => h1.1.trans h2.1.symm) (fun j f hf => by
        match j, hf with
        | 0, hf => simp [rIntS] at hf; subst hf; exact ⟨_, rfl, (HQv.out.alloc (fun b hb => hb.2) _).mono (fun b hb => ⟨rfl, hb⟩)⟩
        | j + 1, hf => simp [rIntS] at hf))
      have zz6 := HB6.out.size
      have hv6 := fun g hg => (HG6.out.own.lt g hg)
      have z56 : w5.heap.size ≤ w6.heap.size := by have := hgrow6.size; simp at this; omega
      obtain ⟨y0, y1, y2, y3⟩ := blkS4 HX6.out
      obtain ⟨z0, z1⟩ := blkS2 HS6.out
      clear hown6 hgrow6 hblk6 hg6
      go_wp2_with fail
      refine (i_nextState HWS.out Hvl.out Hwb.out (RModule.under H.out hS (HB4.out.trans (HB6.out.mono (by omega)))) (fun b hb => by have := hS b hb; omega) HSt6.out (fun b hb => by have := hb.1; omega) HQ6.out (fun b hb => by have := hb.2; omega)).mono ?_
      rintro e w7 ⟨vn, rfl, hq7, hb7⟩
      obtain ⟨R0, r0, f0, R1, r1, f1, rfl⟩ := hq7.r.form
      have HS7 := Lib.hid (HS6.out.below hb7 HS6.out.lt)
      have HG7 := Lib.hid (HG6.out.below hb7 (Nat.le_refl _))
      have HQ7 := Lib.hid hq7.r
      have HB7 := Lib.hid (HB6.out.trans (hb7.mono (by omega)))
      have zz7 := hb7.size
      clear hq7 hb7 y0 y1 y2 y3 z0 z1
      obtain ⟨z0, z1⟩ := blkS2 HS7.out
      have fz0 := HS7.out.frozen 0
      have fz1 := HS7.out.frozen 1
      go_wp2_with fail
      obtain ⟨wf, hwf⟩ : ∃ wf, wf = ((w7.setCell ⟨w4.heap.size, 0, none⟩ (.slice R0 r0 f0)).setCell ⟨w4.heap.size, 1, none⟩ (.slice R1 r1 f1)) := ⟨_, rfl⟩
      have hk2 : ∀ b, b ≠ w4.heap.size → wf.heap[b]? = w7.heap[b]? := fun b hb => by
       rw [hwf]
       exact (Below.heap_setCell _ ⟨w4.heap.size, 1, none⟩ _ b hb).trans (Below.heap_setCell _ ⟨w4.heap.size, 0, none⟩ _ b hb)
      have hsf : wf.heap.size = w7.heap.size := by rw [hwf]; simp [World.setCell]
      have HSf := Lib.hid (show Blk wf w4.heap.size 52 #[.slice R0 r0 f0, .slice R1 r1 f1] by rw [hwf]; exact blk_two HS7.out)
      have HBf := Lib.hid (show Below w4.heap.size w4 wf by rw [hwf]; exact (HB7.out.setCell (Nat.le_refl _) _).setCell (Nat.le_refl _) _)
      rw [← hwf]
      have Hk2 := Lib.hid hk2
      have Hsf := Lib.hid hsf
      clear hwf hk2 hsf z0 z1 fz0 fz1
      go_roundw
      case rel =>
       have hsf := Hsf.out
       refine ⟨k + 1, _, _, _, by omega, by go_num, by rw [HTS.out]; exact HG7.out.keep (fun b h1 _ => Hk2.out b (by omega)) (by omega), HSf.out, ?_, HBf.out, by omega⟩
       rw [HCS.out]
       refine (HQ7.out.keep (w' := wf) (fun p hp => World.cell?_of_block (Hk2.out _ (by have h1 : w6.heap.size ≤ p.block := hp.1; omega)))).mono (fun b hb => ⟨by have := hb.2; omega, fun h1 => by have h2 := (hv6 b h1).2; have h3 : w6.heap.size ≤ b := hb.1; omega, by have h3 : w6.heap.size ≤ b := hb.1; omega⟩)
      case measure => simp [intOf]; omega
     ·have hge : (nx : Int) ≤ (k : Int) := by omega
      have hkn : k = nx := by omega
      go_wp2_with fail
      go_ret2
      refine ⟨_, ret_tup2 HR.out, ?_, Hbw.out⟩
      rw [trc_yes HR.out, Hnx.out, ← hkn]
      show Sep wr _ _ (.sl ((trcK m ins k).map rIntS))
      rw [← HL.out]
      exact (HG.out.sep hLl (by unfold maxLen; omega)).mono (fun b hb => ⟨by omega, hb.2⟩)
end Go.Proofs.YtjkdgedgfkgjdaaGreat
