/- Contracts: is a module flat: the reference's function. -/
import Derived.Test.YtlgbdpcobbbglaaFokB
import Derived.Test.YtlgbdpcobbbglaaEvoC
import Derived.Outline
namespace Go.Proofs.Ytlgbdpcobbbglaa
open Go.RowKit

set_option maxRecDepth 100000 in
set_option maxHeartbeats 16000000 in
theorem s_FlatOk {w : World} {S : Nat → Prop} {v : Value} {m : TModule} (hz : sModule m ≤ 1048576) (h : RModule w S v m) (hS : ∀ b, S b → b < w.heap.size) :
  Calls Try.prog 17 #[v] w fun e w' => e = .returned (.bool (flatB m)) ∧ Below w.heap.size w w' := by
 obtain ⟨A0, c0, A1, c1, A2, c2, A3, c3, rfl, hSg, hAs, -, hMe, hm0, hm1, hm2, hm3⟩ := mod_open h
 obtain ⟨ns, hns⟩ : ∃ ns, m.1.length = ns := ⟨_, rfl⟩
 obtain ⟨na, hna⟩ : ∃ na, m.2.1.length = na := ⟨_, rfl⟩
 obtain ⟨ni, hni⟩ : ∃ ni, m.2.2.1.length = ni := ⟨_, rfl⟩
 obtain ⟨nm, hnm⟩ : ∃ nm, m.2.2.2.length = nm := ⟨_, rfl⟩
 rw [hns, hna, hni, hnm] at h ⊢
 rw [hns] at hSg hm0
 rw [hna] at hAs hm1
 rw [hni] at hm2
 rw [hnm] at hMe hm3
 unfold maxLen at hm0 hm1 hm2 hm3
 have Hn := Lib.hid (And.intro hns (And.intro hna (And.intro hni hnm)))
 have H := Lib.hid h
 have HSg := Lib.hid hSg
 have HAs := Lib.hid hAs
 have HMe := Lib.hid hMe
 have HB0 := Lib.hid ((Below.refl w.heap.size w).alloc (Nat.le_refl _) (.cells #[.slice A0 ns c0, .slice A1 na c1, .slice A2 ni c2, .slice A3 nm c3] 31))
 have HX0 := Lib.hid (Blk.new w 31 #[.slice A0 ns c0, .slice A1 na c1, .slice A2 ni c2, .slice A3 nm c3])
 clear hns hna hnm hni h hSg hAs hMe
 go_enter Try.func17, Try.ntmps17
 go_wp2_with fail
 refine (s_EvalOrder hz (RModule.under H.out hS HB0.out) (fun b hb => by have := hS b hb; simp; omega)).mono ?_
 rintro e w1 ⟨vo, rfl, hqo, hb1⟩
 have HBw := Lib.hid (HB0.out.trans (hb1.mono (by simp)))
 have HXm := Lib.hid (HX0.out.below hb1 HX0.out.lt)
 have z1 := hb1.size
 simp at z1
 obtain ⟨Ao, no, co, rfl⟩ := slv_of hqo.rep
 clear hqo hb1
 cases hor : ordB m with
 | false =>
  have Hor := Lib.hid hor
  clear hor
  go_wp2_with fail
  go_ret
  exact ⟨ret_bool (by unfold flatB; rw [Hor.out]; rfl), HBw.out⟩
 | true =>
  have Hor := Lib.hid hor
  have Hok := Lib.hid (ordB_ok hor)
  obtain ⟨hn30, hna30, hnm2⟩ := okE_na Hok.out
  rw [Hn.out.1] at hn30
  rw [Hn.out.2.1] at hna30
  rw [Hn.out.2.2.2] at hnm2
  have HOK := Hok
  clear hor Hok
  go_wp2_with fail
  go_loopw [5] (fun iv wr => ∃ k : Nat, k ≤ ns ∧ iv = .int .i64 k ∧ Hid ((m.1.take k).all wid1 = true) ∧ Below w1.heap.size w1 wr) (fun iv _ => ns - (intOf iv).toNat)
  case atStart => exact ⟨0, Nat.zero_le _, rfl, Lib.hid rfl, Below.refl _ _⟩
  case round =>
   obtain ⟨k, hk, rfl, Hok, hb⟩ := hrel
   have Hb := Lib.hid hb
   have hsz := hb.size
   have Hbw := Lib.hid (HBw.out.trans (hb.mono (by omega)))
   have HXr := Lib.hid (HXm.out.below hb HXm.out.lt)
   have hwr : w.heap.size ≤ wr.heap.size := by omega
   obtain ⟨y0, y1, y2, y3⟩ := blkS4 HXr.out
   have g1 : (0 : Int) ≤ (k : Int) := by omega
   clear hb
   by_cases hlt : k < ns
   ·obtain ⟨ad, x0, x1, x2, rfl, hab, hx, e0, e1, e2⟩ := fSignalS_row (HSg.out.under hS Hbw.out) hlt
    have g2 : (k : Int) < (ns : Int) := by omega
    have Hx := Lib.hid hx
    have Hs := Lib.hid (all_take (p := wid1) hx)
    clear hx
    by_cases h0 : x1 = 0
    ·subst h0
     go_wp2_with fail
     go_ret
     exact ⟨ret_bool (by unfold flatB; rw [Hor.out, all_not Hx.out rfl]; rfl), Hbw.out⟩
    ·have q0 : (x1 == 0) = false := by simpa using h0
     have H0 := Lib.hid h0
     clear h0
     go_wp2_with fail
     go_roundw
     case rel => exact ⟨k + 1, by omega, by go_num, Lib.hid (by rw [Hs.out, Hok.out, show wid1 (x0, x1, x2) = true by simp [wid1, H0.out]]; rfl), Hb.out⟩
     case measure => simp [intOf]; omega
   ·have hge : (ns : Int) ≤ (k : Int) := by omega
    have HA1 := Lib.hid (show m.1.all wid1 = true by have h1 := Hok.out; rw [List.take_of_length_le (by have := Hn.out.1; omega)] at h1; exact h1)
    go_wp2_with fail
    clear y0 y1 y2 y3 hge
    obtain ⟨wa, hwa⟩ : ∃ wa, wa = wr := ⟨_, rfl⟩
    subst hwa
    go_loopw [6, 7] (fun iv _ wr => ∃ k : Nat, k ≤ na ∧ iv = .int .i64 k ∧ Hid ((m.2.1.take k).all noP1 = true) ∧ Below w1.heap.size w1 wr) (fun iv _ _ => na - (intOf iv).toNat)
    case atStart => exact ⟨0, Nat.zero_le _, rfl, Lib.hid rfl, Hb.out⟩
    case round =>
     clear Hok Hb Hbw HXr hwr g1 hsz
     obtain ⟨k, hk, rfl, Hok, hb⟩ := hrel
     have Hb := Lib.hid hb
     have hsz := hb.size
     have Hbw := Lib.hid (HBw.out.trans (hb.mono (by omega)))
     have HXr := Lib.hid (HXm.out.below hb HXm.out.lt)
     have hwr : w.heap.size ≤ wr.heap.size := by omega
     obtain ⟨y0, y1, y2, y3⟩ := blkS4 HXr.out
     have g1 : (0 : Int) ≤ (k : Int) := by omega
     clear hb
     by_cases hlt : k < na
     ·obtain ⟨ad, a, os, A1', c1', rfl, hab, hx, hro, hom, t0, t1⟩ := asg_row (HAs.out.under hS Hbw.out) hlt
      have g2 : (k : Int) < (na : Int) := by omega
      have Hx := Lib.hid hx
      have Hs := Lib.hid (all_take (p := noP1) hx)
      have Hro := Lib.hid hro
      obtain ⟨no', hno'⟩ : ∃ no', os.length = no' := ⟨_, rfl⟩
      rw [hno'] at t1 hom Hro
      have Hno := Lib.hid hno'
      have Ht1 := Lib.hid t1
      unfold maxLen at hom
      clear hx hro hno'
      go_wp2_with fail
      clear y0 y1 y2 y3 t0 t1
      obtain ⟨wk, hwk⟩ : ∃ wk, wk = wr := ⟨_, rfl⟩
      subst hwk
      go_loopw [7] (fun jv wr => ∃ j : Nat, j ≤ no' ∧ jv = .int .i64 j ∧ Hid ((os.take j).any hp1 = false) ∧ Below wk.heap.size wk wr) (fun jv _ => no' - (intOf jv).toNat)
      case atStart => exact ⟨0, Nat.zero_le _, rfl, Lib.hid rfl, Below.refl _ _⟩
      case round =>
       obtain ⟨j, hj, rfl, Hokj, hbj⟩ := hrel
       have Hbj := Lib.hid hbj
       have hszj := hbj.size
       have Hbw1 := Lib.hid (Hb.out.trans (hbj.mono (by omega)))
       obtain ⟨y0, y1, y2, y3⟩ := blkS4 (HXr.out.below hbj HXr.out.lt)
       have t1 := (hbj.cell (p := nxt (ad.add (k * 2)) 1) (by rw [nxt_block]; have := hS _ hab; omega)).trans Ht1.out
       have g3 : (0 : Int) ≤ (j : Int) := by omega
       clear hbj
       by_cases hlj : j < no'
       ·obtain ⟨ad2, x0, x1, x2, rfl, hab2, hxo, e0, e1, e2⟩ := fOpS_row (Hro.out.under (B := wk.heap.size) (fun b hb => by have := hS b hb; omega) Hbj.out) hlj
        have g4 : (j : Int) < (no' : Int) := by omega
        have Hxo := Lib.hid hxo
        clear hxo
        by_cases h1 : x0 = 1
        ·subst h1
         go_wp2_with fail
         go_ret
         exact ⟨ret_bool (by unfold flatB; rw [Hor.out, HA1.out, all_not Hx.out (by simp only [noP1]; unfold hasP; rw [any_hit (p := hp1) Hxo.out (by simp [hp1])]; rfl)]; rfl), HBw.out.trans (Hbw1.out.mono (by omega))⟩
        ·have q1 : (x0 == 1) = false := by simpa using h1
         have H1 := Lib.hid h1
         clear h1
         go_wp2_with fail
         go_roundw
         case rel => exact ⟨j + 1, by omega, by go_num, Lib.hid (by rw [any_take Hxo.out, Hokj.out, show hp1 (x0, x1, x2) = false by simp [hp1, H1.out]]; rfl), Hbj.out⟩
         case measure => simp [intOf]; omega
       ·have hge : (no' : Int) ≤ (j : Int) := by omega
        have He := Lib.hid (show hasP os = false by
         have h1 := Hokj.out
         rw [List.take_of_length_le (by have := Hno.out; omega)] at h1
         exact h1)
        go_wp2_with fail
        go_roundw
        case rel => exact ⟨k + 1, by omega, by go_num, Lib.hid (by rw [Hs.out, Hok.out, show noP1 (a, os) = true by simp only [noP1]; rw [He.out]; rfl]; rfl), Hbw1.out⟩
        case measure => simp [intOf]; omega
     ·have hge : (na : Int) ≤ (k : Int) := by omega
      have HA2 := Lib.hid (show m.2.1.all noP1 = true by have h1 := Hok.out; rw [List.take_of_length_le (by have := Hn.out.2.1; omega)] at h1; exact h1)
      go_wp2_with fail
      clear y0 y1 y2 y3
      refine (s_PortWidths 3 (RModule.under H.out hS (HBw.out.trans (Hb.out.mono (by omega)))) (fun b hb => by have := hS b hb; have := Hb.out.size; omega)).mono ?_
      rintro e w5 ⟨v5, rfl, hq5, hb5⟩
      have Hb5 := Lib.hid (Hb.out.trans (hb5.mono Hb.out.size))
      obtain ⟨A5, n5, c5, rfl⟩ := slv_of hq5.rep
      have HQ5 := Lib.hid hq5.rep
      clear hq5 hb5
      go_wp2_with fail
      obtain ⟨hl5, hbd5, hs5, ht5⟩ := widthsM_bd HOK.out 3
      refine (s_l06Sum HQ5.out (fun b hb => hb.2) hl5 hbd5).mono ?_
      rintro e u5 ⟨rfl, hb5⟩
      have Hv5 := Lib.hid (Hb5.out.trans (hb5.mono Hb5.out.size))
      have HY5 := Lib.hid (HXm.out.below Hv5.out HXm.out.lt)
      obtain ⟨s5, hsq5⟩ : ∃ s, s = (widthsM m 3).sum := ⟨_, rfl⟩
      rw [← hsq5] at hs5 ht5 ⊢
      have HS5 := Lib.hid hsq5
      clear hsq5 hb5 hl5 hbd5
      go_wp2_with fail
      go_loopw [8, 9, 10] (fun sv iv _ wr => ∃ k : Nat, k ≤ nm ∧ iv = .int .i64 k ∧ sv = .int .i64 (stBits m (m.2.2.2.take k)) ∧ Hid ((m.2.2.2.take k).all (memW m.1) = true) ∧ Below w1.heap.size w1 wr) (fun _ iv _ _ => nm - (intOf iv).toNat)
      case atStart => exact ⟨0, Nat.zero_le _, rfl, by rw [HS5.out]; simp [stBits], Lib.hid rfl, Hv5.out⟩
      case round =>
       clear Hok Hb Hbw HXr hwr g1 hsz hge
       obtain ⟨k, hk, rfl, rfl, Hok, hb⟩ := hrel
       have Hb := Lib.hid hb
       have hsz := hb.size
       have Hbw := Lib.hid (HBw.out.trans (hb.mono (by omega)))
       have HXr := Lib.hid (HXm.out.below hb HXm.out.lt)
       have hwr : w.heap.size ≤ wr.heap.size := by omega
       have g1 : (0 : Int) ≤ (k : Int) := by omega
       obtain ⟨st, hst⟩ : ∃ st, st = stBits m (m.2.2.2.take k) := ⟨_, rfl⟩
       have hsb := stBits_bd HOK.out k
       rw [← hst] at hsb ⊢
       have Hst := Lib.hid hst
       clear hb hst
       by_cases hlt : k < nm
       ·obtain ⟨ad2, m0, m1, m2, m3, rfl, hab2, hx, t0, t1, t2, t3⟩ := fMemS_row (HMe.out.under hS Hbw.out) hlt
        obtain ⟨p, q, r, s, rfl, rfl, rfl, rfl, hp, hq, hr, hs⟩ := okE_mem HOK.out hx
        rw [Hn.out.1] at hp hq hr hs
        have g2 : (k : Int) < (nm : Int) := by omega
        obtain ⟨W1, hW1⟩ : ∃ W1, W1 = wr.alloc (.cells #[.int .i64 (p : Int), .int .i64 (q : Int), .int .i64 (r : Int), .int .i64 (s : Int)] 80) := ⟨_, rfl⟩
        have HW1 := Lib.hid (show Below wr.heap.size wr W1 by rw [hW1]; exact (Below.refl _ _).alloc (Nat.le_refl _) _)
        have HXx := Lib.hid (show Blk W1 wr.heap.size 80 #[.int .i64 (p : Int), .int .i64 (q : Int), .int .i64 (r : Int), .int .i64 (s : Int)] by rw [hW1]; exact Blk.new _ _ _)
        have HXm1 := Lib.hid (HXr.out.below HW1.out (by omega))
        have Hbw1 := Lib.hid (Hbw.out.trans (HW1.out.mono hwr))
        obtain ⟨ad3, p0, p1, p2, rfl, hab3, hxp, _, e1p, _⟩ := fSignalS_row (HSg.out.under hS Hbw1.out) hp
        obtain ⟨ad4, q0, q1, q2, hA4, _, hxq, _, e1q, _⟩ := fSignalS_row (HSg.out.under hS Hbw1.out) hq
        obtain rfl : ad3 = ad4 := by injection hA4
        obtain ⟨ad4, r0, r1, r2, hA5, _, hxr, _, e1r, _⟩ := fSignalS_row (HSg.out.under hS Hbw1.out) hr
        obtain rfl : ad3 = ad4 := by injection hA5
        obtain ⟨ad4, s0, s1, s2, hA6, _, hxs, _, e1s, _⟩ := fSignalS_row (HSg.out.under hS Hbw1.out) hs
        obtain rfl : ad3 = ad4 := by injection hA6
        have hbs := (okE_sig HOK.out hxs).2.1
        simp only at hbs
        have Hmw := Lib.hid (show memW m.1 ((p : Int), (q : Int), (r : Int), (s : Int)) = (decide (p1 = 2) && (decide (r1 = 1) && decide (q1 = s1))) by simp only [memW]; rw [widAt_get hxp, widAt_get hxq, widAt_get hxr, widAt_get hxs])
        have Hx := Lib.hid hx
        have Hs := Lib.hid (all_take (p := memW m.1) hx)
        have Hts := Lib.hid (show stBits m (m.2.2.2.take (k + 1)) = st + s1 by rw [stBits_succ hx, ← Hst.out]; simp only; rw [widAt_get hxs])
        have hbk3 : ad3.block < W1.heap.size := by have := hS _ hab3; have := Hbw1.out.size; omega
        have z1 := HW1.out.size
        have i1 : (0 : Int) ≤ (p : Int) ∧ (p : Int) < (ns : Int) := by omega
        have i2 : (0 : Int) ≤ (q : Int) ∧ (q : Int) < (ns : Int) := by omega
        have i3 : (0 : Int) ≤ (r : Int) ∧ (r : Int) < (ns : Int) := by omega
        have i4 : (0 : Int) ≤ (s : Int) ∧ (s : Int) < (ns : Int) := by omega
        obtain ⟨i1a, i1b⟩ := i1
        obtain ⟨i2a, i2b⟩ := i2
        obtain ⟨i3a, i3b⟩ := i3
        obtain ⟨i4a, i4b⟩ := i4
        clear hx hxp hxq hxr hxs hA4 hA5 hA6
        obtain ⟨y0, y1, y2, y3⟩ := blkS4 HXr.out
        by_cases hp2 : p1 = 2
        rotate_left
        ·have c1 : ((p1 : Int) != 2) = true := by simpa using hp2
         have Hp2 := Lib.hid hp2
         clear hp2
         go_wp2_with fail
         rw [← hW1]
         clear hW1 y0 y1 y2 y3 t0 t1 t2 t3
         refine wp_region_lexC (by kernel_rfl) (by kernel_rfl) (fun x => Below W1.heap.size W1 x) ((Below.refl _ _).drew) (fun lexNE => ?_)
         obtain ⟨cm0, cm1, cm2, cm3⟩ := bwS4 HXm1.out HXm1.out.lt
         obtain ⟨cx0, cx1, cx2, cx3⟩ := bwS4 HXx.out HXx.out.lt
         have dp := wcell (B := W1.heap.size) e1p (by rw [nxt_block]; exact hbk3)
         have dq := wcell (B := W1.heap.size) e1q (by rw [nxt_block]; exact hbk3)
         have dr := wcell (B := W1.heap.size) e1r (by rw [nxt_block]; exact hbk3)
         have ds := wcell (B := W1.heap.size) e1s (by rw [nxt_block]; exact hbk3)
         (repeat (first | (refine lex_r fun K hK => ?_; go_big_quiet_op; refine hK _ ?_; clear hK K) | (refine lex_k fun K hK => ?_; go_simp; refine hK _ ?_; clear hK K)))
         (refine lex_nil ?_)
         clear lexNE cm0 cm1 cm2 cm3 cx0 cx1 cx2 cx3 dp dq dr ds
         go_wp2_with fail
         go_ret
         exact ⟨ret_bool (by unfold flatB; rw [Hor.out, HA1.out, HA2.out, all_not Hx.out (by rw [Hmw.out, decide_eq_false Hp2.out, Bool.false_and])]; rfl), Hbw1.out.drew⟩
        subst hp2
        by_cases hr1 : r1 = 1
        rotate_left
        ·have c1 : ((r1 : Int) != 1) = true := by simpa using hr1
         have Hr1 := Lib.hid hr1
         clear hr1
         go_wp2_with fail
         rw [← hW1]
         clear hW1 y0 y1 y2 y3 t0 t1 t2 t3
         refine wp_region_lexC (by kernel_rfl) (by kernel_rfl) (fun x => Below W1.heap.size W1 x) ((Below.refl _ _).drew) (fun lexNE => ?_)
         obtain ⟨cm0, cm1, cm2, cm3⟩ := bwS4 HXm1.out HXm1.out.lt
         obtain ⟨cx0, cx1, cx2, cx3⟩ := bwS4 HXx.out HXx.out.lt
         have dp := wcell (B := W1.heap.size) e1p (by rw [nxt_block]; exact hbk3)
         have dq := wcell (B := W1.heap.size) e1q (by rw [nxt_block]; exact hbk3)
         have dr := wcell (B := W1.heap.size) e1r (by rw [nxt_block]; exact hbk3)
         have ds := wcell (B := W1.heap.size) e1s (by rw [nxt_block]; exact hbk3)
         (repeat (first | (refine lex_r fun K hK => ?_; go_big_quiet_op; refine hK _ ?_; clear hK K) | (refine lex_k fun K hK => ?_; go_simp; refine hK _ ?_; clear hK K)))
         (refine lex_nil ?_)
         clear lexNE cm0 cm1 cm2 cm3 cx0 cx1 cx2 cx3 dp dq dr ds
         go_wp2_with fail
         go_ret
         exact ⟨ret_bool (by unfold flatB; rw [Hor.out, HA1.out, HA2.out, all_not Hx.out (by rw [Hmw.out, decide_eq_false Hr1.out, Bool.false_and, Bool.and_false])]; rfl), Hbw1.out.drew⟩
        subst hr1
        by_cases hqs : q1 = s1
        rotate_left
        ·have c1 : ((q1 : Int) != s1) = true := by simpa using hqs
         have Hqs := Lib.hid hqs
         clear hqs
         go_wp2_with fail
         rw [← hW1]
         clear hW1 y0 y1 y2 y3 t0 t1 t2 t3
         refine wp_region_lexC (by kernel_rfl) (by kernel_rfl) (fun x => Below W1.heap.size W1 x) ((Below.refl _ _).drew) (fun lexNE => ?_)
         obtain ⟨cm0, cm1, cm2, cm3⟩ := bwS4 HXm1.out HXm1.out.lt
         obtain ⟨cx0, cx1, cx2, cx3⟩ := bwS4 HXx.out HXx.out.lt
         have dp := wcell (B := W1.heap.size) e1p (by rw [nxt_block]; exact hbk3)
         have dq := wcell (B := W1.heap.size) e1q (by rw [nxt_block]; exact hbk3)
         have dr := wcell (B := W1.heap.size) e1r (by rw [nxt_block]; exact hbk3)
         have ds := wcell (B := W1.heap.size) e1s (by rw [nxt_block]; exact hbk3)
         (repeat (first | (refine lex_r fun K hK => ?_; go_big_quiet_op; refine hK _ ?_; clear hK K) | (refine lex_k fun K hK => ?_; go_simp; refine hK _ ?_; clear hK K)))
         (refine lex_nil ?_)
         clear lexNE cm0 cm1 cm2 cm3 cx0 cx1 cx2 cx3 dp dq dr ds
         go_wp2_with fail
         go_ret
         exact ⟨ret_bool (by unfold flatB; rw [Hor.out, HA1.out, HA2.out, all_not Hx.out (by rw [Hmw.out, decide_eq_false Hqs.out, Bool.and_false, Bool.and_false])]; rfl), Hbw1.out.drew⟩
        subst hqs
        go_wp2_with fail
        rw [← hW1]
        clear hW1 y0 y1 y2 y3 t0 t1 t2 t3
        refine wp_region_lexC (by kernel_rfl) (by kernel_rfl) (fun x => Below W1.heap.size W1 x) ((Below.refl _ _).drew) (fun lexNE => ?_)
        obtain ⟨cm0, cm1, cm2, cm3⟩ := bwS4 HXm1.out HXm1.out.lt
        obtain ⟨cx0, cx1, cx2, cx3⟩ := bwS4 HXx.out HXx.out.lt
        have dp := wcell (B := W1.heap.size) e1p (by rw [nxt_block]; exact hbk3)
        have dq := wcell (B := W1.heap.size) e1q (by rw [nxt_block]; exact hbk3)
        have dr := wcell (B := W1.heap.size) e1r (by rw [nxt_block]; exact hbk3)
        have ds := wcell (B := W1.heap.size) e1s (by rw [nxt_block]; exact hbk3)
        (repeat (first | (refine lex_r fun K hK => ?_; go_big_quiet_op; refine hK _ ?_; clear hK K) | (refine lex_k fun K hK => ?_; go_simp; refine hK _ ?_; clear hK K)))
        (refine lex_nil ?_)
        clear lexNE cm0 cm1 cm2 cm3 cx0 cx1 cx2 cx3 dp dq dr ds
        have hw : wrap64 (st + q1) = st + q1 := IntWalk.wrap64_in _ (by omega)
        obtain ⟨y0, y1, y2, y3⟩ := blkS4 HXm1.out
        obtain ⟨z0, z1', z2, z3⟩ := blkS4 HXx.out
        go_wp2_with fail
        go_roundw
        case rel => exact ⟨k + 1, by omega, by go_num, by rw [Hts.out], Lib.hid (by rw [Hs.out, Hok.out, Hmw.out]; simp), Hb.out.trans ((HW1.out.drew).mono hsz)⟩
        case measure => simp [intOf]; omega
       ·have hge : (nm : Int) ≤ (k : Int) := by omega
        have HA3 := Lib.hid (show m.2.2.2.all (memW m.1) = true by have h1 := Hok.out; rw [List.take_of_length_le (by have := Hn.out.2.2.2; omega)] at h1; exact h1)
        have HST := Lib.hid (show stBits m m.2.2.2 = st by have h1 := Hst.out; rw [List.take_of_length_le (by have := Hn.out.2.2.2; omega)] at h1; exact h1.symm)
        obtain ⟨y0, y1, y2, y3⟩ := blkS4 HXr.out
        clear Hok
        go_wp2_with fail
        clear y0 y1 y2 y3
        refine (s_PortWidths 0 (RModule.under H.out hS (HBw.out.trans (Hb.out.mono (by omega)))) (fun b hb => by have := hS b hb; have := Hb.out.size; omega)).mono ?_
        rintro e w6 ⟨v6, rfl, hq6, hb6⟩
        have Hb6 := Lib.hid (Hb.out.trans (hb6.mono Hb.out.size))
        obtain ⟨A6, n6, c6, rfl⟩ := slv_of hq6.rep
        have HQ6 := Lib.hid hq6.rep
        clear hq6 hb6
        go_wp2_with fail
        obtain ⟨hl6, hbd6, hs6, ht6⟩ := widthsM_bd HOK.out 0
        refine (s_l06Sum HQ6.out (fun b hb => hb.2) hl6 hbd6).mono ?_
        rintro e u6 ⟨rfl, hb6⟩
        have Hv6 := Lib.hid (Hb6.out.trans (hb6.mono Hb6.out.size))
        have HY6 := Lib.hid (HXm.out.below Hv6.out HXm.out.lt)
        obtain ⟨s6, hsq6⟩ : ∃ s, s = (widthsM m 0).sum := ⟨_, rfl⟩
        rw [← hsq6] at hs6 ht6 ⊢
        have HS6 := Lib.hid hsq6
        clear hsq6 hb6 hl6 hbd6
        by_cases c6 : s6 ≤ 8
        rotate_left
        ·have C6 := Lib.hid c6
         have c6' : 8 < s6 := by omega
         clear c6
         go_wp2_with fail
         go_ret
         exact ⟨ret_bool (by unfold flatB; rw [Hor.out, HA1.out, HA2.out, HA3.out, ← HS6.out, decide_eq_false (show ¬ s6 ≤ 8 by have := C6.out; omega)]; rfl), HBw.out.trans (Hv6.out.mono (by omega))⟩
        obtain ⟨y0, y1, y2, y3⟩ := blkS4 HY6.out
        go_wp2_with fail
        clear y0 y1 y2 y3
        refine (s_PortWidths 1 (RModule.under H.out hS (HBw.out.trans (Hv6.out.mono (by omega)))) (fun b hb => by have := hS b hb; have := Hv6.out.size; omega)).mono ?_
        rintro e w7 ⟨v7, rfl, hq7, hb7⟩
        have Hb7 := Lib.hid (Hv6.out.trans (hb7.mono Hv6.out.size))
        obtain ⟨A7, n7, c7, rfl⟩ := slv_of hq7.rep
        have HQ7 := Lib.hid hq7.rep
        clear hq7 hb7
        go_wp2_with fail
        obtain ⟨hl7, hbd7, hs7, ht7⟩ := widthsM_bd HOK.out 1
        refine (s_l06Sum HQ7.out (fun b hb => hb.2) hl7 hbd7).mono ?_
        rintro e u7 ⟨rfl, hb7⟩
        have Hv7 := Lib.hid (Hb7.out.trans (hb7.mono Hb7.out.size))
        have HY7 := Lib.hid (HXm.out.below Hv7.out HXm.out.lt)
        obtain ⟨s7, hsq7⟩ : ∃ s, s = (widthsM m 1).sum := ⟨_, rfl⟩
        rw [← hsq7] at hs7 ht7 ⊢
        have HS7 := Lib.hid hsq7
        clear hsq7 hb7 hl7 hbd7
        by_cases c7 : s7 ≤ 8
        rotate_left
        ·have C7 := Lib.hid c7
         have c7' : 8 < s7 := by omega
         clear c7
         go_wp2_with fail
         go_ret
         exact ⟨ret_bool (by unfold flatB; rw [Hor.out, HA1.out, HA2.out, HA3.out, ← HS6.out, ← HS7.out, decide_eq_true c6, decide_eq_false (show ¬ s7 ≤ 8 by have := C7.out; omega)]; rfl), HBw.out.trans (Hv7.out.mono (by omega))⟩
        by_cases c8 : st ≤ 12
        ·go_wp2_with fail
         go_ret
         exact ⟨ret_bool (by unfold flatB; rw [Hor.out, HA1.out, HA2.out, HA3.out, ← HS6.out, ← HS7.out, decide_eq_true c6, decide_eq_true c7, HST.out, decide_eq_true c8]; rfl), HBw.out.trans (Hv7.out.mono (by omega))⟩
        ·have C8 := Lib.hid c8
         have c8' : 12 < st := by omega
         clear c8
         go_wp2_with fail
         go_ret
         exact ⟨ret_bool (by unfold flatB; rw [Hor.out, HA1.out, HA2.out, HA3.out, ← HS6.out, ← HS7.out, decide_eq_true c6, decide_eq_true c7, HST.out, decide_eq_false (show ¬ st ≤ 12 by have := C8.out; omega)]; rfl), HBw.out.trans (Hv7.out.mono (by omega))⟩
end Go.Proofs.Ytlgbdpcobbbglaa
