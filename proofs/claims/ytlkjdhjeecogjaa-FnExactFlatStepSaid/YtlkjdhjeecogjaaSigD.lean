/- Contracts: the values of all signals in a cycle: the reference's function. -/
import Derived.Test.YtlkjdhjeecogjaaSigC
import Derived.Test.YtlkjdhjeecogjaaFstS
import Derived.Outline
namespace Go.Proofs.Ytlkjdhjeecogjaa
open Go.RowKit

set_option maxRecDepth 100000 in
set_option maxHeartbeats 16000000 in
theorem s_SignalValues {w : World} {S S2 S4 : Nat → Prop} {v v2 : Value} {Ai : Option Addr} {ni' ci : Nat} {m : TModule} {st : TWordState} {ins : List Int} (hz : sModule m ≤ 1048576)
  (h : RModule w S v m) (hS : ∀ b, S b → b < w.heap.size) (h2 : RWordState w S2 v2 st) (hS2 : ∀ b, S2 b → b < w.heap.size) (hin : Rep w S4 (.slice Ai ni' ci) (fIntS ins)) (hS4 : ∀ b, S4 b → b < w.heap.size) :
  Calls Try.prog 56 #[v, v2, .slice Ai ni' ci] w fun e w' => ∃ v', e = .returned v' ∧ QIntS w' (New w w') v' (sigL m st ins) ∧ Below w.heap.size w w' := by
 obtain ⟨i0, hi, hz0', hz1', hz2'⟩ := info_parts Try.infoIntC
 have H2 := Lib.hid h2
 obtain ⟨A0, c0, A1, c1, A2, c2, A3, c3, rfl, hSg, hAs, -, hMe, hm0, hm1, hm2, hm3⟩ := mod_open h
 obtain ⟨ns, hns⟩ : ∃ ns, m.1.length = ns := ⟨_, rfl⟩
 obtain ⟨na, hna⟩ : ∃ na, m.2.1.length = na := ⟨_, rfl⟩
 obtain ⟨ni, hni⟩ : ∃ ni, m.2.2.1.length = ni := ⟨_, rfl⟩
 obtain ⟨nm, hnm⟩ : ∃ nm, m.2.2.2.length = nm := ⟨_, rfl⟩
 rw [hns, hna, hni, hnm] at h ⊢
 rw [hns] at hSg hm0
 rw [hna] at hAs hm1
 rw [hni] at hm2
 rw [hnm] at hMe hm3
 unfold maxLen at hm0 hm1 hm2 hm3
 have Hn := Lib.hid (And.intro hns (And.intro hna (And.intro hni hnm)))
 have H := Lib.hid h
 have HSg := Lib.hid hSg
 have HAs := Lib.hid hAs
 have HMe := Lib.hid hMe
 have HB0 := Lib.hid ((Below.refl w.heap.size w).alloc (Nat.le_refl _) (.cells #[.slice A0 ns c0, .slice A1 na c1, .slice A2 ni c2, .slice A3 nm c3] 41))
 have HX0 := Lib.hid (Blk.new w 41 #[.slice A0 ns c0, .slice A1 na c1, .slice A2 ni c2, .slice A3 nm c3])
 clear hns hna hnm hni h hSg hAs hMe
 obtain ⟨V0, d0, V1, d1, rfl, hV0, hV1, hvm0, hvm1⟩ := wst_open h2
 obtain ⟨nv, hnv⟩ : ∃ nv, st.1.length = nv := ⟨_, rfl⟩
 obtain ⟨nw, hnw⟩ : ∃ nw, st.2.length = nw := ⟨_, rfl⟩
 rw [hnv] at hV0 hvm0 ⊢
 rw [hnw] at hV1 hvm1 ⊢
 unfold maxLen at hvm0 hvm1
 have HNV := Lib.hid (And.intro hnv hnw)
 have HV0 := Lib.hid hV0
 have HV1 := Lib.hid hV1
 clear hnv hnw hV0 hV1 h2
 obtain ⟨W0, hW0⟩ : ∃ W0, W0 = (w.alloc (.cells #[.slice A0 ns c0, .slice A1 na c1, .slice A2 ni c2, .slice A3 nm c3] 41)).alloc (.cells #[.slice V0 nv d0, .slice V1 nw d1] 33) := ⟨_, rfl⟩
 have hz0 : W0.heap.size = w.heap.size + 1 + 1 := by rw [hW0]; simp
 have HBW0 := Lib.hid (show Below w.heap.size w W0 by rw [hW0]; exact HB0.out.alloc (by simp) _)
 have HXM0 := Lib.hid (show Blk W0 w.heap.size 41 #[.slice A0 ns c0, .slice A1 na c1, .slice A2 ni c2, .slice A3 nm c3] by rw [hW0]; exact HX0.out.alloc _)
 have HXS0 := Lib.hid (show Blk W0 (w.heap.size + 1) 33 #[.slice V0 nv d0, .slice V1 nw d1] by rw [hW0]; exact blk_new_at (by simp))
 have HW0 := Lib.hid hW0
 clear hW0
 rw [HNV.out.1, HNV.out.2] at H2
 have hni := hin.len
 rw [List.length_map] at hni
 have Hins := Lib.hid hin
 have Hni := Lib.hid hni
 have hw0 : w.heap.size ≤ W0.heap.size := by omega
 clear hni hin
 go_enter Try.func56, Try.ntmps56
 go_wp2_with fail
 rw [← HW0.out]
 refine (s_WordStateOk hz (RModule.under H.out hS HBW0.out) (fun b hb => by have := hS b hb; omega) (RWordState.under H2.out hS2 HBW0.out) (fun b hb => by have := hS2 b hb; omega)).mono ?_
 rintro e w1 ⟨rfl, hb1⟩
 have HB1 := Lib.hid (HBW0.out.trans (hb1.mono hw0))
 have HXM1 := Lib.hid (HXM0.out.below hb1 HXM0.out.lt)
 have HXS1 := Lib.hid (HXS0.out.below hb1 HXS0.out.lt)
 have z1 := hb1.size
 clear hb1
 cases hws : wsB m st with
 | false =>
  have Hws := Lib.hid hws
  clear hws
  go_wp2_with fail
  go_ret
  refine ⟨_, rfl, ?_, (HB1.out).alloc (by have := (HB1.out).size; omega) _⟩
  rw [sig_no (by unfold sigOk; rw [Hws.out, Bool.false_and])]
  have hO := World.ownsRow_made (base := w1.heap.size) (size := 1) (e := 3) _ #[] 0 (Nat.le_refl _) (by unfold maxLen; omega) rfl
  exact sep_ints (by unfold maxLen; omega) hO (fun g hg => ⟨by have := (hO.lt g hg).1; have := (HB1.out).size; omega, (hO.lt g hg).2⟩)
 | true =>
  have Hws := Lib.hid hws
  obtain ⟨hf, hvl, _, _, _⟩ := wsB_iff hws
  obtain ⟨hvn, hvb⟩ := ws_vals hws
  have hok := (flat_ok hf).1
  obtain ⟨hn30, hna30, hnm2⟩ := okE_na hok
  rw [Hn.out.1] at hn30 hvl
  rw [Hn.out.2.1] at hna30
  rw [HNV.out.1] at hvl
  obtain rfl : ns = nv := hvl.symm
  have HF := Lib.hid hf
  have HOK := Lib.hid hok
  have Hvb := Lib.hid hvb
  have Hom := Lib.hid (ordN_mem hok)
  have hol := ordN_len m
  obtain ⟨y0, y1, y2, y3⟩ := blkS4 HXM1.out
  obtain ⟨z0, z1'⟩ := blkS2 HXS1.out
  clear hws hf hok hvb
  go_wp2_with fail
  refine (s_PortWidths 0 (RModule.under H.out hS HB1.out) (fun b hb => by have := hS b hb; omega)).mono ?_
  rintro e w2 ⟨v3, rfl, hq3, hb2⟩
  obtain ⟨A3', c3', rfl, _, _⟩ := sl_form hq3.rep (List.length_map _)
  obtain ⟨np, hnp⟩ : ∃ np, (widthsM m 0).length = np := ⟨_, rfl⟩
  rw [hnp]
  have Hnp := Lib.hid hnp
  have hnp30 : np ≤ 30 := by have := widthsM_len m 0; omega
  have HB2 := Lib.hid (HB1.out.trans (hb2.mono (by omega)))
  have HXM2 := Lib.hid (HXM1.out.below hb2 HXM1.out.lt)
  have HXS2 := Lib.hid (HXS1.out.below hb2 HXS1.out.lt)
  have z2 := hb2.size
  clear hb2 hq3 hnp y0 y1 y2 y3 z0 z1'
  by_cases hl : ni' = np
  rotate_left
  ·have hl' : ((ni' : Int) != (np : Int)) = true := by simp; omega
   have Hl := Lib.hid hl
   clear hl
   go_wp2_with fail
   go_ret
   refine ⟨_, rfl, ?_, (HB2.out).alloc (by have := (HB2.out).size; omega) _⟩
   rw [sig_no (by unfold sigOk; rw [Hws.out, Hni.out, Hnp.out, decide_eq_false Hl.out, Bool.and_false])]
   have hO := World.ownsRow_made (base := w2.heap.size) (size := 1) (e := 3) _ #[] 0 (Nat.le_refl _) (by unfold maxLen; omega) rfl
   exact sep_ints (by unfold maxLen; omega) hO (fun g hg => ⟨by have := (hO.lt g hg).1; have := (HB2.out).size; omega, (hO.lt g hg).2⟩)
  obtain rfl := hl
  have Hok := Lib.hid (show sigOk m st ins = true by unfold sigOk; rw [Hws.out, Hni.out, Hnp.out]; simp)
  have hrd := (rep_reads (HV0.out.under hS2 HB2.out) (B := w2.heap.size) (fun b hb => by have := hS2 b hb; omega)).alloc (Nat.le_refl _) (.cells #[] 3)
  have HO := World.ownsRow_made (base := w2.heap.size) (size := 1) (e := 3) w2 #[] 0 (Nat.le_refl _) (by unfold maxLen; omega) rfl
  have HBa := Lib.hid ((Below.refl w2.heap.size w2).alloc (Nat.le_refl _) (.cells #[] 3))
  obtain ⟨z0, z1'⟩ := blkS2 (HXS2.out.alloc (.cells #[] 3))
  go_wp2_with (at_builtin; refine wpList_append_any _ rfl _ _ 28 rfl (w2.heap.size) 3 i0 (.int .i64 0) 1 8 Try.underlying28 hi hz0' hz1' hz2' rfl (by decide) _ _ _ rfl HO _ _ ns d0 (ints st.1) rfl hrd (ints_one _) (by unfold maxLen; omega) (by omega) (by simp) ?_; intro v7 w7 hown7 hgrow7 hblk7; refine stopX ?_)
  refine stopped ?_
  have hb7 := Lib.hid (HBa.out.trans (below_of_grown hgrow7 (by simp) (fun g hg => (HO.lt g hg).1)))
  rw [Nat.zero_add, List.nil_append] at hown7
  obtain ⟨go, cc, rfl⟩ : ∃ g c, v7 = .slice (some ⟨g, 0, none⟩) ns c := by
   rcases hown7.2 with ⟨rfl, _⟩ | ⟨g, cap, cur, rfl, _⟩
   ·exfalso
    rcases hblk7 with h1 | h1
    ·have h2 : (none : Option Nat) = some _ := h1
     cases h2
    ·have h2 : (none : Option Nat) = some _ := h1
     cases h2
   ·exact ⟨g, cap, rfl⟩
  obtain ⟨V, hV⟩ : ∃ V, V = natL st.1 := ⟨_, rfl⟩
  have hVl : V.length = m.1.length := by rw [hV]; unfold natL; rw [List.length_map, HNV.out.1, Hn.out.1]
  rw [hvn, ← hV, ← inpK_zero ins hVl] at hown7
  have HO7 := Lib.hid hown7
  have hgo := hown7.lt go rfl
  have HV := Lib.hid hV
  have HB7 := Lib.hid (HB2.out.trans (hb7.out.mono (by omega)))
  have HX7 := Lib.hid (HXM2.out.below hb7.out HXM2.out.lt)
  have z7 := hb7.out.size
  clear hown7 hgrow7 hblk7 HO hrd z0 z1' hV hVl hvn
  go_wp2_with fail
  go_loopw [8, 9] (fun kv iv wr => ∃ k : Nat, k ≤ ns ∧ iv = .int .i64 k ∧ kv = .int .i64 (cntIn m k : Nat) ∧ wr.ownsRow w2.heap.size 3 1 (.slice (some ⟨go, 0, none⟩) ns cc) ns (ints (nI (inpK m V ins k))) ∧ Only (fun b => b = go) w7 wr) (fun _ iv _ => ns - (intOf iv).toNat)
  case atStart => exact ⟨0, Nat.zero_le _, rfl, rfl, HO7.out, Only.refl _ _⟩
  case round =>
   obtain ⟨k, hk, rfl, rfl, hown, ho⟩ := hrel
   have Ho := Lib.hid ho
   have Hown := Lib.hid hown
   have hsz := ho.size
   have Hbr := Lib.hid (ho.below (B := w2.heap.size) (by omega) (fun b hb => by omega))
   have Hbw := Lib.hid (HB7.out.trans (Hbr.out.mono (by omega)))
   have HXr := Lib.hid (Only.blk ho HX7.out (by omega))
   obtain ⟨y0, y1, y2, y3⟩ := blkS4 HXr.out
   have g1 : (0 : Int) ≤ (k : Int) := by omega
   clear ho hown
   by_cases hlt : k < ns
   ·obtain ⟨ad, x0, x1, x2, rfl, hab, hx, e0, e1, e2⟩ := fSignalS_row (HSg.out.under hS Hbw.out) hlt
    have g2 : (k : Int) < (ns : Int) := by omega
    have hw4 := flat_wid HF.out hx
    simp only at hw4
    by_cases h0 : x0 = 0
    ·subst h0
     have hcl : cntIn m k < ni' := by have h1 := cntIn_lt hx rfl (by rw [Hn.out.1]; exact hn30); have := Hnp.out; omega
     obtain ⟨adi, xi, rfl, habi, hxi, ei⟩ := fIntS_row (Hins.out.under hS4 Hbw.out) hcl
     have Hs := Lib.hid (inpK_set (m := m) (vs := V) (ins := ins) (k := k) (by rw [Hn.out.1]; exact hlt))
     have Hcn := Lib.hid (show cntIn m (k + 1) = cntIn m k + 1 by rw [cntIn_succ hx]; rfl)
     have hbi : adi.block < wr.heap.size := by have := hS4 _ habi; have := Hbw.out.size; omega
     have hbs : ad.block < wr.heap.size := by have := hS _ hab; have := Hbw.out.size; omega
     have Hx := Lib.hid hx
     have Hxi := Lib.hid hxi
     obtain ⟨cn, hcn⟩ : ∃ cn, cn = cntIn m k := ⟨_, rfl⟩
     rw [← hcn] at hcl Hcn ei Hxi ⊢
     have HCN := Lib.hid hcn
     have g3 : (0 : Int) ≤ (cn : Int) := by omega
     have g4 : (cn : Int) < (ni' : Int) := by omega
     obtain ⟨zo, hzo, hc⟩ := own_nat_at Hown.out hlt
     have hfz := Hown.out.frozenAt k
     clear hx hxi hzo hcn
     go_wp2_with fail
     clear y0 y1 y2 y3
     rcases mskN_cases hw4 with ⟨rfl, hM⟩ | ⟨rfl, hM⟩ | ⟨rfl, hM⟩ | ⟨rfl, hM⟩
     ·have hb : bits .and .i64 xi (1 : Int) = ((cutN xi 1 : Nat) : Int) := and_cut (x := xi) (M := 1) (by simp [isMask])
      have Hia := Lib.hid (show inpA m V ins k = cutN xi 1 by unfold inpA; rw [kindAt_get Hx.out, widAt_get Hx.out, ← HCN.out, show ins.getD cn 0 = xi by simp [List.getD, Hxi.out]]; simp only; rw [hM]; simp)
      refine wp_region_lexC (by kernel_rfl) (by kernel_rfl) (fun x => Below wr.heap.size wr x) ((Below.refl _ _).drew) (fun lexNE => ?_)
      obtain ⟨cm0, cm1, cm2, cm3⟩ := bwS4 HXr.out HXr.out.lt
      have ci := wcell (B := wr.heap.size) ei (by rw [block_of_add]; exact hbi)
      have cw := wcell (B := wr.heap.size) e1 (by rw [nxt_block]; exact hbs)
      (repeat (first | (refine lex_r fun K hK => ?_; go_big_quiet_op; refine hK _ ?_; clear hK K) | (refine lex_k fun K hK => ?_; go_simp; refine hK _ ?_; clear hK K)))
      (refine lex_l fun K hK => ?_; go_big_op)
      (refine hK _ _ ?_; clear hK K)
      clear lexNE cm0 cm1 cm2 cm3 ci cw
      go_wp2_with fail
      go_roundw
      case rel =>
       refine ⟨k + 1, by omega, by go_num, by rw [Hcn.out]; go_num, ?_, ?_⟩
       ·rw [← Hs.out, Hia.out]
        have h1 := Hown.out.stored k (.int .i64 ((cutN xi 1 : Nat) : Int))
        rw [show ints (nI ((inpK m V ins k).set k (cutN xi 1))) = (ints (nI (inpK m V ins k))).set k (.int .i64 ((cutN xi 1 : Nat) : Int)) by rw [nI_lit, nI_lit, List.map_set]]
        exact own_drew h1.1
       ·exact (Ho.out.setCell (p := ⟨go, k, none⟩) (.inl rfl) _).drew
      case measure => simp [intOf]; omega
     ·have hb : bits .and .i64 xi (3 : Int) = ((cutN xi 3 : Nat) : Int) := and_cut (x := xi) (M := 3) (by simp [isMask])
      have Hia := Lib.hid (show inpA m V ins k = cutN xi 3 by unfold inpA; rw [kindAt_get Hx.out, widAt_get Hx.out, ← HCN.out, show ins.getD cn 0 = xi by simp [List.getD, Hxi.out]]; simp only; rw [hM]; simp)
      refine wp_region_lexC (by kernel_rfl) (by kernel_rfl) (fun x => Below wr.heap.size wr x) ((Below.refl _ _).drew) (fun lexNE => ?_)
      obtain ⟨cm0, cm1, cm2, cm3⟩ := bwS4 HXr.out HXr.out.lt
      have ci := wcell (B := wr.heap.size) ei (by rw [block_of_add]; exact hbi)
      have cw := wcell (B := wr.heap.size) e1 (by rw [nxt_block]; exact hbs)
      (repeat (first | (refine lex_r fun K hK => ?_; go_big_quiet_op; refine hK _ ?_; clear hK K) | (refine lex_k fun K hK => ?_; go_simp; refine hK _ ?_; clear hK K)))
      (refine lex_l fun K hK => ?_; go_big_op)
      (refine hK _ _ ?_; clear hK K)
      clear lexNE cm0 cm1 cm2 cm3 ci cw
      go_wp2_with fail
      go_roundw
      case rel =>
       refine ⟨k + 1, by omega, by go_num, by rw [Hcn.out]; go_num, ?_, ?_⟩
       ·rw [← Hs.out, Hia.out]
        have h1 := Hown.out.stored k (.int .i64 ((cutN xi 3 : Nat) : Int))
        rw [show ints (nI ((inpK m V ins k).set k (cutN xi 3))) = (ints (nI (inpK m V ins k))).set k (.int .i64 ((cutN xi 3 : Nat) : Int)) by rw [nI_lit, nI_lit, List.map_set]]
        exact own_drew h1.1
       ·exact (Ho.out.setCell (p := ⟨go, k, none⟩) (.inl rfl) _).drew
      case measure => simp [intOf]; omega
     ·have hb : bits .and .i64 xi (7 : Int) = ((cutN xi 7 : Nat) : Int) := and_cut (x := xi) (M := 7) (by simp [isMask])
      have Hia := Lib.hid (show inpA m V ins k = cutN xi 7 by unfold inpA; rw [kindAt_get Hx.out, widAt_get Hx.out, ← HCN.out, show ins.getD cn 0 = xi by simp [List.getD, Hxi.out]]; simp only; rw [hM]; simp)
      refine wp_region_lexC (by kernel_rfl) (by kernel_rfl) (fun x => Below wr.heap.size wr x) ((Below.refl _ _).drew) (fun lexNE => ?_)
      obtain ⟨cm0, cm1, cm2, cm3⟩ := bwS4 HXr.out HXr.out.lt
      have ci := wcell (B := wr.heap.size) ei (by rw [block_of_add]; exact hbi)
      have cw := wcell (B := wr.heap.size) e1 (by rw [nxt_block]; exact hbs)
      (repeat (first | (refine lex_r fun K hK => ?_; go_big_quiet_op; refine hK _ ?_; clear hK K) | (refine lex_k fun K hK => ?_; go_simp; refine hK _ ?_; clear hK K)))
      (refine lex_l fun K hK => ?_; go_big_op)
      (refine hK _ _ ?_; clear hK K)
      clear lexNE cm0 cm1 cm2 cm3 ci cw
      go_wp2_with fail
      go_roundw
      case rel =>
       refine ⟨k + 1, by omega, by go_num, by rw [Hcn.out]; go_num, ?_, ?_⟩
       ·rw [← Hs.out, Hia.out]
        have h1 := Hown.out.stored k (.int .i64 ((cutN xi 7 : Nat) : Int))
        rw [show ints (nI ((inpK m V ins k).set k (cutN xi 7))) = (ints (nI (inpK m V ins k))).set k (.int .i64 ((cutN xi 7 : Nat) : Int)) by rw [nI_lit, nI_lit, List.map_set]]
        exact own_drew h1.1
       ·exact (Ho.out.setCell (p := ⟨go, k, none⟩) (.inl rfl) _).drew
      case measure => simp [intOf]; omega
     ·have hb : bits .and .i64 xi (15 : Int) = ((cutN xi 15 : Nat) : Int) := and_cut (x := xi) (M := 15) (by simp [isMask])
      have Hia := Lib.hid (show inpA m V ins k = cutN xi 15 by unfold inpA; rw [kindAt_get Hx.out, widAt_get Hx.out, ← HCN.out, show ins.getD cn 0 = xi by simp [List.getD, Hxi.out]]; simp only; rw [hM]; simp)
      refine wp_region_lexC (by kernel_rfl) (by kernel_rfl) (fun x => Below wr.heap.size wr x) ((Below.refl _ _).drew) (fun lexNE => ?_)
      obtain ⟨cm0, cm1, cm2, cm3⟩ := bwS4 HXr.out HXr.out.lt
      have ci := wcell (B := wr.heap.size) ei (by rw [block_of_add]; exact hbi)
      have cw := wcell (B := wr.heap.size) e1 (by rw [nxt_block]; exact hbs)
      (repeat (first | (refine lex_r fun K hK => ?_; go_big_quiet_op; refine hK _ ?_; clear hK K) | (refine lex_k fun K hK => ?_; go_simp; refine hK _ ?_; clear hK K)))
      (refine lex_l fun K hK => ?_; go_big_op)
      (refine hK _ _ ?_; clear hK K)
      clear lexNE cm0 cm1 cm2 cm3 ci cw
      go_wp2_with fail
      go_roundw
      case rel =>
       refine ⟨k + 1, by omega, by go_num, by rw [Hcn.out]; go_num, ?_, ?_⟩
       ·rw [← Hs.out, Hia.out]
        have h1 := Hown.out.stored k (.int .i64 ((cutN xi 15 : Nat) : Int))
        rw [show ints (nI ((inpK m V ins k).set k (cutN xi 15))) = (ints (nI (inpK m V ins k))).set k (.int .i64 ((cutN xi 15 : Nat) : Int)) by rw [nI_lit, nI_lit, List.map_set]]
        exact own_drew h1.1
       ·exact (Ho.out.setCell (p := ⟨go, k, none⟩) (.inl rfl) _).drew
      case measure => simp [intOf]; omega
    ·have q0 : (x0 == 0) = false := by simpa using h0
     have Hs := Lib.hid (inpK_same (m := m) (vs := V) (ins := ins) (k := k) (by rw [Hn.out.1]; exact hlt) (by rw [kindAt_get hx]; exact h0))
     have Hcn := Lib.hid (show cntIn m (k + 1) = cntIn m k by rw [cntIn_succ hx, if_neg h0]; rfl)
     clear h0 hx
     go_wp2_with fail
     go_roundw
     case rel => exact ⟨k + 1, by omega, by go_num, by rw [Hcn.out], by rw [← Hs.out]; exact Hown.out, Ho.out⟩
     case measure => simp [intOf]; omega
   ·have hge : (ns : Int) ≤ (k : Int) := by omega
    have hkn : k = ns := by omega
    have HE := Lib.hid (show wr.ownsRow w2.heap.size 3 1 (.slice (some ⟨go, 0, none⟩) ns cc) ns (ints (nI (runV m (inpL m V ins) ((ordN m).take 0)))) by
     have h1 := Hown.out
     rw [hkn, ← Hn.out.1, inpK_end, Hn.out.1] at h1
     exact h1)
    clear hkn
    go_wp2_with fail
    refine (s_EvalOrder hz (RModule.under H.out hS Hbw.out) (fun b hb => by have := hS b hb; have := Hbw.out.size; omega)).mono ?_
    rintro e w3 ⟨vo, rfl, hqo, hb3⟩
    obtain ⟨Ao, no, co, rfl⟩ := slv_of hqo.rep
    have hno := hqo.rep.len
    unfold ordL at hno
    rw [List.length_map, nI_len] at hno
    have hno30 : no ≤ 30 := by omega
    have hgl : go < wr.heap.size := (Hown.out.lt go rfl).2
    have Hord := Lib.hid (show Rep w3 (fun b => b < w3.heap.size ∧ b ≠ go) (.slice Ao no co) (fIntS (nI (ordN m))) from hqo.rep.mono (fun b hb => ⟨hb.2, by have h1 : wr.heap.size ≤ b := hb.1; omega⟩))
    have HO3 := Lib.hid (own_below HE.out hb3 (Nat.le_refl _))
    have HB37 := Lib.hid (Hbr.out.trans (hb3.mono (by omega)))
    have HX3 := Lib.hid (HXr.out.below hb3 HXr.out.lt)
    have z3 := hb3.size
    have Hno := Lib.hid hno
    clear hqo hb3 hno HE y0 y1 y2 y3
    obtain ⟨wl, hwl⟩ : ∃ wl, wl = wr := ⟨_, rfl⟩
    subst hwl
    go_wp2_with fail
    go_loopw [12, 13, 14, 15] (fun iv _ _ _ wr => ∃ k : Nat, k ≤ no ∧ iv = .int .i64 k ∧ wr.ownsRow w2.heap.size 3 1 (.slice (some ⟨go, 0, none⟩) ns cc) ns (ints (nI (runV m (inpL m V ins) ((ordN m).take k)))) ∧ Only (fun b => b = go) w3 wr) (fun iv _ _ _ _ => no - (intOf iv).toNat)
    case atStart => exact ⟨0, Nat.zero_le _, rfl, HO3.out, Only.refl _ _⟩
    case round =>
     clear HO3 Hown Ho hsz Hbw HXr g1 Hbr hge
     obtain ⟨k, hk, rfl, hown, ho⟩ := hrel
     have Ho := Lib.hid ho
     have Hown := Lib.hid hown
     have hsz := ho.size
     have Hbr := Lib.hid (HB37.out.trans (ho.below (B := w2.heap.size) (by omega) (fun b hb => by omega)))
     have Hbw := Lib.hid (HB7.out.trans (Hbr.out.mono (by omega)))
     have HXr := Lib.hid (Only.blk ho HX3.out (by omega))
     have hordr : Rep wr (fun b => b < w3.heap.size ∧ b ≠ go) (.slice Ao no co) (fIntS (nI (ordN m))) := Hord.out.keep (fun p hp => ho.cell hp.1 hp.2)
     have g1 : (0 : Int) ≤ (k : Int) := by omega
     clear ho hown
     by_cases hlt : k < no
     ·obtain ⟨ado, i, rfl, habo, hoi, eo⟩ := rep_nat_at hordr hlt
      have hin := Hom.out i (List.mem_of_getElem? hoi)
      rw [Hn.out.2.1] at hin
      obtain ⟨ad2, a, os, A1', c1', rfl, hab2, hx, hro, hom, t0, t1⟩ := asg_row (HAs.out.under hS Hbw.out) hin
      obtain ⟨s, x, rfl, hxs, hw4a, hw4b⟩ := tgt_wid HF.out hx
      have hsn : s < ns := by have := (List.getElem?_eq_some_iff.1 hxs).1; have := Hn.out.1; omega
      have g2 : (k : Int) < (no : Int) := by omega
      have g3 : (0 : Int) ≤ (i : Int) := by omega
      have g4 : (i : Int) < (na : Int) := by omega
      have g5 : (0 : Int) ≤ (s : Int) := by omega
      have g6 : (s : Int) < (ns : Int) := by omega
      have hbo : ado.block < wr.heap.size := by have := habo.1; omega
      have hba : ad2.block < wr.heap.size := by have := hS _ hab2; have := Hbw.out.size; omega
      obtain ⟨y0, y1, y2, y3⟩ := blkS4 HXr.out
      have Hx := Lib.hid hx
      have Hxs := Lib.hid hxs
      have Hoi := Lib.hid hoi
      have Hro := Lib.hid hro
      clear hoi hx hxs hro hordr
      go_wp2_with fail
      clear y0 y1 y2 y3
      refine wp_region_lexC (by kernel_rfl) (by kernel_rfl) (fun x => Below wr.heap.size wr x) ((Below.refl _ _).drew) (fun lexNE => ?_)
      obtain ⟨cm0, cm1, cm2, cm3⟩ := bwS4 HXr.out HXr.out.lt
      have co' := wcell (B := wr.heap.size) eo (by rw [block_of_add]; exact hbo)
      have ct0 := wcell (B := wr.heap.size) t0 (by rw [block_of_add]; exact hba)
      have ct1 := wcell (B := wr.heap.size) t1 (by rw [nxt_block]; exact hba)
      (repeat (first | (refine lex_r fun K hK => ?_; go_big_quiet_op; refine hK _ ?_; clear hK K) | (refine lex_k fun K hK => ?_; go_simp; refine hK _ ?_; clear hK K)))
      (refine lex_e fun K hK => ?_; go_big_op)
      (refine hK _ _ (Cls.mk' bel_) ?_; clear hK K)
      (repeat (first | (refine lex_r fun K hK => ?_; go_big_quiet_op; refine hK _ ?_; clear hK K) | (refine lex_k fun K hK => ?_; go_simp; refine hK _ ?_; clear hK K)))
      (refine lex_e fun K hK => ?_; go_big_op)
      (refine hK _ _ (Cls.mk' bel_) ?_; clear hK K)
      (repeat (first | (refine lex_r fun K hK => ?_; go_big_quiet_op; refine hK _ ?_; clear hK K) | (refine lex_k fun K hK => ?_; go_simp; refine hK _ ?_; clear hK K)))
      (refine lex_nil ?_)
      clear lexNE cm0 cm1 cm2 cm3 co' ct0 ct1
      obtain ⟨W1, hW1⟩ : ∃ W1, W1 = (wr.alloc (.cells #[.int .i64 (s : Int), .slice A1' os.length c1'] 97)).drew := ⟨_, rfl⟩
      have hW1b := Lib.hid (show Below wr.heap.size wr W1 by rw [hW1]; exact ((Below.refl _ _).alloc (Nat.le_refl _) _).drew)
      obtain ⟨ad, x0, x1, x2, rfl, hab, hxs', e0, e1, e2⟩ := fSignalS_row (HSg.out.under hS (Hbw.out.trans (hW1b.out.mono (by omega)))) hsn
      obtain rfl : (x0, x1, x2) = x := by have h1 := Hxs.out; rw [h1] at hxs'; injection hxs' with h2; exact h2.symm
      simp only at hw4a hw4b
      obtain ⟨VV, hVV⟩ : ∃ VV, VV = runV m (inpL m V ins) ((ordN m).take k) := ⟨_, rfl⟩
      rw [← hVV] at Hown
      have Hs := Lib.hid (show runV m (inpL m V ins) ((ordN m).take (k + 1)) = VV.set s (evF os VV (mskN x1)) by
       rw [runV_take Hoi.out, ← hVV]
       unfold asgV
       rw [asgA_get Hx.out, widAt_get Hxs.out]
       simp)
      have hVl : VV.length = m.1.length := by rw [hVV, runV_len]; simp [inpL]
      have hVb : ∀ x ∈ VV, x ≤ 15 := by
       rw [hVV]
       refine runV_bd HF.out _ _ (fun j hj => Hom.out j (List.mem_of_mem_take hj)) (fun y hy => ?_)
       rw [← inpK_end, HV.out] at hy
       exact inpL_bd HF.out Hvb.out _ y hy
      obtain ⟨hob, hev⟩ := ev_asg HF.out Hx.out VV (mskN x1)
      rw [← hVl] at hob
      have hbs : ad.block < W1.heap.size := by have := hS _ hab; have := Hbw.out.size; have := hW1b.out.size; omega
      have HOw1 := Lib.hid (show W1.ownsRow w2.heap.size 3 1 (.slice (some ⟨go, 0, none⟩) ns cc) ns (ints (nI VV)) by rw [hW1]; exact own_drew (Hown.out.alloc _))
      have Ho1 := Lib.hid (show Only (fun b => b = go) w3 W1 by rw [hW1]; exact (Ho.out.alloc _).drew)
      have HXb := Lib.hid (show Blk W1 wr.heap.size 97 #[.int .i64 (s : Int), .slice A1' os.length c1'] by rw [hW1]; exact (Blk.new _ _ _).drew)
      have HXm1 := Lib.hid (HXr.out.below hW1b.out (by omega))
      have hops : RepB W1.drew W1.drew.heap.size (.slice A1' os.length c1') (fOpS os) := (Hro.out.under (B := wr.heap.size) (fun b hb => by have := hS b hb; omega) hW1b.out).drew.mono (fun b hb => by have := hS b hb; have := hW1b.out.size; show b < W1.heap.size; omega)
      have hvals : RepB W1.drew W1.drew.heap.size (.slice (some ⟨go, 0, none⟩) ns cc) (fIntS (nI VV)) := own_repB (by unfold maxLen; omega) (own_drew HOw1.out)
      have HC := Lib.hid (s_l07Eval (mskN_is ⟨hw4a, hw4b⟩) hob hVb hev _ _ _ _ _ _ _ hops hvals)
      obtain ⟨ve, hve⟩ : ∃ ve, ve = evF os VV (mskN x1) := ⟨_, rfl⟩
      rw [← hve] at HC Hs
      rw [← hW1]
      clear hW1 hxs' hVV hVl hVb hob hev hops hvals hve t0 t1 e0 e2 eo
      go_wp2_with fail
      rcases mskN_cases ⟨hw4a, hw4b⟩ with ⟨rfl, hM⟩ | ⟨rfl, hM⟩ | ⟨rfl, hM⟩ | ⟨rfl, hM⟩
      ·rw [hM] at HC
       refine wp_region_lexC (by kernel_rfl) (by kernel_rfl) (fun x => Below W1.heap.size W1 x) ((Below.refl _ _).drew) (fun lexNE => ?_)
       obtain ⟨cm0, cm1, cm2, cm3⟩ := bwS4 HXm1.out HXm1.out.lt
       obtain ⟨cx0, cx1⟩ := bwS2 HXb.out HXb.out.lt
       have cw := wcell (B := W1.heap.size) e1 (by rw [nxt_block]; exact hbs)
       (repeat (first | (refine lex_r fun K hK => ?_; go_big_quiet_op; refine hK _ ?_; clear hK K) | (refine lex_k fun K hK => ?_; go_simp; refine hK _ ?_; clear hK K)))
       (refine lex_e fun K hK => ?_; go_big_op)
       refine (HC.out).mono ?_
       rintro e w8 ⟨rfl, hb8⟩
       have H8 := Lib.hid ((Below.refl W1.heap.size W1).drew.trans hb8)
       have HOw8 := Lib.hid (own_below HOw1.out H8.out (Nat.le_refl _))
       refine hK _ _ (Cls.mk' H8.out) ?_
       clear hK K hb8
       (repeat (first | (refine lex_r fun K hK => ?_; go_big_quiet_op; refine hK _ ?_; clear hK K) | (refine lex_k fun K hK => ?_; go_simp; refine hK _ ?_; clear hK K)))
       (refine lex_nil ?_)
       clear lexNE cm0 cm1 cm2 cm3 cx0 cx1 cw
       obtain ⟨zo, hzo, hc⟩ := own_nat_at HOw8.out hsn
       have hfz := HOw8.out.frozenAt s
       obtain ⟨z0, z1'⟩ := blkS2 (HXb.out.below H8.out HXb.out.lt)
       clear hzo
       go_wp2_with fail
       go_roundw
       case rel =>
        refine ⟨k + 1, by omega, by go_num, ?_, ?_⟩
        ·rw [Hs.out]
         have h1 := HOw8.out.stored s (.int .i64 (ve : Int))
         rw [show ints (nI (VV.set s ve)) = (ints (nI VV)).set s (.int .i64 (ve : Int)) by rw [nI_lit, nI_lit, List.map_set]]
         exact h1.1
        ·exact (Ho1.out.trans (Only.of_below H8.out (fun b => b = go))).setCell (p := ⟨go, s, none⟩) (.inl rfl) _
       case measure => simp [intOf]; omega
      ·rw [hM] at HC
       refine wp_region_lexC (by kernel_rfl) (by kernel_rfl) (fun x => Below W1.heap.size W1 x) ((Below.refl _ _).drew) (fun lexNE => ?_)
       obtain ⟨cm0, cm1, cm2, cm3⟩ := bwS4 HXm1.out HXm1.out.lt
       obtain ⟨cx0, cx1⟩ := bwS2 HXb.out HXb.out.lt
       have cw := wcell (B := W1.heap.size) e1 (by rw [nxt_block]; exact hbs)
       (repeat (first | (refine lex_r fun K hK => ?_; go_big_quiet_op; refine hK _ ?_; clear hK K) | (refine lex_k fun K hK => ?_; go_simp; refine hK _ ?_; clear hK K)))
       (refine lex_e fun K hK => ?_; go_big_op)
       refine (HC.out).mono ?_
       rintro e w8 ⟨rfl, hb8⟩
       have H8 := Lib.hid ((Below.refl W1.heap.size W1).drew.trans hb8)
       have HOw8 := Lib.hid (own_below HOw1.out H8.out (Nat.le_refl _))
       refine hK _ _ (Cls.mk' H8.out) ?_
       clear hK K hb8
       (repeat (first | (refine lex_r fun K hK => ?_; go_big_quiet_op; refine hK _ ?_; clear hK K) | (refine lex_k fun K hK => ?_; go_simp; refine hK _ ?_; clear hK K)))
       (refine lex_nil ?_)
       clear lexNE cm0 cm1 cm2 cm3 cx0 cx1 cw
       obtain ⟨zo, hzo, hc⟩ := own_nat_at HOw8.out hsn
       have hfz := HOw8.out.frozenAt s
       obtain ⟨z0, z1'⟩ := blkS2 (HXb.out.below H8.out HXb.out.lt)
       clear hzo
       go_wp2_with fail
       go_roundw
       case rel =>
        refine ⟨k + 1, by omega, by go_num, ?_, ?_⟩
        ·rw [Hs.out]
         have h1 := HOw8.out.stored s (.int .i64 (ve : Int))
         rw [show ints (nI (VV.set s ve)) = (ints (nI VV)).set s (.int .i64 (ve : Int)) by rw [nI_lit, nI_lit, List.map_set]]
         exact h1.1
        ·exact (Ho1.out.trans (Only.of_below H8.out (fun b => b = go))).setCell (p := ⟨go, s, none⟩) (.inl rfl) _
       case measure => simp [intOf]; omega
      ·rw [hM] at HC
       refine wp_region_lexC (by kernel_rfl) (by kernel_rfl) (fun x => Below W1.heap.size W1 x) ((Below.refl _ _).drew) (fun lexNE => ?_)
       obtain ⟨cm0, cm1, cm2, cm3⟩ := bwS4 HXm1.out HXm1.out.lt
       obtain ⟨cx0, cx1⟩ := bwS2 HXb.out HXb.out.lt
       have cw := wcell (B := W1.heap.size) e1 (by rw [nxt_block]; exact hbs)
       (repeat (first | (refine lex_r fun K hK => ?_; go_big_quiet_op; refine hK _ ?_; clear hK K) | (refine lex_k fun K hK => ?_; go_simp; refine hK _ ?_; clear hK K)))
       (refine lex_e fun K hK => ?_; go_big_op)
       refine (HC.out).mono ?_
       rintro e w8 ⟨rfl, hb8⟩
       have H8 := Lib.hid ((Below.refl W1.heap.size W1).drew.trans hb8)
       have HOw8 := Lib.hid (own_below HOw1.out H8.out (Nat.le_refl _))
       refine hK _ _ (Cls.mk' H8.out) ?_
       clear hK K hb8
       (repeat (first | (refine lex_r fun K hK => ?_; go_big_quiet_op; refine hK _ ?_; clear hK K) | (refine lex_k fun K hK => ?_; go_simp; refine hK _ ?_; clear hK K)))
       (refine lex_nil ?_)
       clear lexNE cm0 cm1 cm2 cm3 cx0 cx1 cw
       obtain ⟨zo, hzo, hc⟩ := own_nat_at HOw8.out hsn
       have hfz := HOw8.out.frozenAt s
       obtain ⟨z0, z1'⟩ := blkS2 (HXb.out.below H8.out HXb.out.lt)
       clear hzo
       go_wp2_with fail
       go_roundw
       case rel =>
        refine ⟨k + 1, by omega, by go_num, ?_, ?_⟩
        ·rw [Hs.out]
         have h1 := HOw8.out.stored s (.int .i64 (ve : Int))
         rw [show ints (nI (VV.set s ve)) = (ints (nI VV)).set s (.int .i64 (ve : Int)) by rw [nI_lit, nI_lit, List.map_set]]
         exact h1.1
        ·exact (Ho1.out.trans (Only.of_below H8.out (fun b => b = go))).setCell (p := ⟨go, s, none⟩) (.inl rfl) _
       case measure => simp [intOf]; omega
      ·rw [hM] at HC
       refine wp_region_lexC (by kernel_rfl) (by kernel_rfl) (fun x => Below W1.heap.size W1 x) ((Below.refl _ _).drew) (fun lexNE => ?_)
       obtain ⟨cm0, cm1, cm2, cm3⟩ := bwS4 HXm1.out HXm1.out.lt
       obtain ⟨cx0, cx1⟩ := bwS2 HXb.out HXb.out.lt
       have cw := wcell (B := W1.heap.size) e1 (by rw [nxt_block]; exact hbs)
       (repeat (first | (refine lex_r fun K hK => ?_; go_big_quiet_op; refine hK _ ?_; clear hK K) | (refine lex_k fun K hK => ?_; go_simp; refine hK _ ?_; clear hK K)))
       (refine lex_e fun K hK => ?_; go_big_op)
       refine (HC.out).mono ?_
       rintro e w8 ⟨rfl, hb8⟩
       have H8 := Lib.hid ((Below.refl W1.heap.size W1).drew.trans hb8)
       have HOw8 := Lib.hid (own_below HOw1.out H8.out (Nat.le_refl _))
       refine hK _ _ (Cls.mk' H8.out) ?_
       clear hK K hb8
       (repeat (first | (refine lex_r fun K hK => ?_; go_big_quiet_op; refine hK _ ?_; clear hK K) | (refine lex_k fun K hK => ?_; go_simp; refine hK _ ?_; clear hK K)))
       (refine lex_nil ?_)
       clear lexNE cm0 cm1 cm2 cm3 cx0 cx1 cw
       obtain ⟨zo, hzo, hc⟩ := own_nat_at HOw8.out hsn
       have hfz := HOw8.out.frozenAt s
       obtain ⟨z0, z1'⟩ := blkS2 (HXb.out.below H8.out HXb.out.lt)
       clear hzo
       go_wp2_with fail
       go_roundw
       case rel =>
        refine ⟨k + 1, by omega, by go_num, ?_, ?_⟩
        ·rw [Hs.out]
         have h1 := HOw8.out.stored s (.int .i64 (ve : Int))
         rw [show ints (nI (VV.set s ve)) = (ints (nI VV)).set s (.int .i64 (ve : Int)) by rw [nI_lit, nI_lit, List.map_set]]
         exact h1.1
        ·exact (Ho1.out.trans (Only.of_below H8.out (fun b => b = go))).setCell (p := ⟨go, s, none⟩) (.inl rfl) _
       case measure => simp [intOf]; omega
     ·have hge : (no : Int) ≤ (k : Int) := by omega
      have HE2 := Lib.hid (show wr.ownsRow w2.heap.size 3 1 (.slice (some ⟨go, 0, none⟩) ns cc) ns (ints (nI (sigN m st ins))) by
       have h1 := Hown.out
       rw [List.take_of_length_le (by have := Hno.out; omega), HV.out] at h1
       exact h1)
      go_wp2_with fail
      go_ret
      refine ⟨_, rfl, ?_, Hbw.out⟩
      unfold sigL
      rw [Hok.out]
      exact sep_ints (by unfold maxLen; omega) HE2.out (fun g hg => ⟨by have := (HE2.out.lt g hg).1; omega, (HE2.out.lt g hg).2⟩)
end Go.Proofs.Ytlkjdhjeecogjaa
