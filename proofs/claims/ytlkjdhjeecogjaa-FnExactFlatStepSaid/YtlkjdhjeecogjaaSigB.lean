/- Contracts: the values of all signals in a cycle: the program's inner function. -/
import Derived.Test.YtlkjdhjeecogjaaSigA
import Derived.Outline
namespace Go.Proofs.Ytlkjdhjeecogjaa
open Go.RowKit

/-- a cell in a class of worlds that differ in some blocks alone -/
theorem ocell {S : Nat → Prop} {W0 : World} {p : Addr} {u : Value} (h : W0.cell? p = some u) (hp : p.block < W0.heap.size) (hn : ¬ S p.block) : ∀ W : Wd (fun w => Only S W0 w), W.val.cell? p = some u := fun W => (W.ok.cell hp hn).trans h
set_option maxRecDepth 100000 in
set_option maxHeartbeats 16000000 in
theorem i_signalValues {w : World} {S S2 S3 S4 : Nat → Prop} {v v2 : Value} {Ao Ai : Option Addr} {no co ni' ci : Nat} {m : TModule} {st : TWordState} {ins : List Int} (hws : wsB m st = true) (hil : ins.length = (widthsM m 0).length)
  (h : RModule w S v m) (hS : ∀ b, S b → b < w.heap.size) (ho : Rep w S2 (.slice Ao no co) (fIntS (nI (ordN m)))) (hS2' : ∀ b, S2 b → b < w.heap.size) (h2 : RWordState w S3 v2 st) (hS2 : ∀ b, S3 b → b < w.heap.size) (hin : Rep w S4 (.slice Ai ni' ci) (fIntS ins)) (hS4 : ∀ b, S4 b → b < w.heap.size) :
  Calls Try.prog 122 #[v, .slice Ao no co, v2, .slice Ai ni' ci] w fun e w' => ∃ v', e = .returned v' ∧ QIntS w' (New w w') v' (nI (sigN m st ins)) ∧ Below w.heap.size w w' := by
 obtain ⟨hf, hvl, _, _, _⟩ := wsB_iff hws
 obtain ⟨hvn, hvb⟩ := ws_vals hws
 have hok := (flat_ok hf).1
 obtain ⟨hn30, hna30, hnm2⟩ := okE_na hok
 have hno := ho.len
 rw [List.length_map, nI_len] at hno
 have hni := hin.len
 rw [List.length_map] at hni
 have hol := ordN_len m
 have HF := Lib.hid hf
 have HOK := Lib.hid hok
 have Hord := Lib.hid ho
 have Hins := Lib.hid hin
 have Hvb := Lib.hid hvb
 have Hom := Lib.hid (ordN_mem hok)
 obtain ⟨A0, c0, A1, c1, A2, c2, A3, c3, rfl, hSg, hAs, -, hMe, hm0, hm1, hm2, hm3⟩ := mod_open h
 obtain ⟨ns, hns⟩ : ∃ ns, m.1.length = ns := ⟨_, rfl⟩
 obtain ⟨na, hna⟩ : ∃ na, m.2.1.length = na := ⟨_, rfl⟩
 obtain ⟨ni, hni⟩ : ∃ ni, m.2.2.1.length = ni := ⟨_, rfl⟩
 obtain ⟨nm, hnm⟩ : ∃ nm, m.2.2.2.length = nm := ⟨_, rfl⟩
 rw [hns, hna, hni, hnm] at h ⊢
 rw [hns] at hSg hm0
 rw [hna] at hAs hm1
 rw [hni] at hm2
 rw [hnm] at hMe hm3
 unfold maxLen at hm0 hm1 hm2 hm3
 have Hn := Lib.hid (And.intro hns (And.intro hna (And.intro hni hnm)))
 have H := Lib.hid h
 have HSg := Lib.hid hSg
 have HAs := Lib.hid hAs
 have HMe := Lib.hid hMe
 have HB0 := Lib.hid ((Below.refl w.heap.size w).alloc (Nat.le_refl _) (.cells #[.slice A0 ns c0, .slice A1 na c1, .slice A2 ni c2, .slice A3 nm c3] 41))
 have HX0 := Lib.hid (Blk.new w 41 #[.slice A0 ns c0, .slice A1 na c1, .slice A2 ni c2, .slice A3 nm c3])
 clear hns hna hnm hni h hSg hAs hMe
 rw [Hn.out.1] at hn30 hvl
 rw [Hn.out.2.1] at hna30
 obtain ⟨V0, d0, V1, d1, rfl, hV0, hV1, hvm0, hvm1⟩ := wst_open h2
 obtain ⟨nv, hnv⟩ : ∃ nv, st.1.length = nv := ⟨_, rfl⟩
 obtain ⟨nw, hnw⟩ : ∃ nw, st.2.length = nw := ⟨_, rfl⟩
 rw [hnv] at hV0 hvm0 ⊢
 rw [hnw] at hV1 hvm1 ⊢
 unfold maxLen at hvm0 hvm1
 have HNV := Lib.hid (And.intro hnv hnw)
 have HV0 := Lib.hid hV0
 have HV1 := Lib.hid hV1
 clear hnv hnw hV0 hV1 h2
 obtain ⟨W0, hW0⟩ : ∃ W0, W0 = (w.alloc (.cells #[.slice A0 ns c0, .slice A1 na c1, .slice A2 ni c2, .slice A3 nm c3] 41)).alloc (.cells #[.slice V0 nv d0, .slice V1 nw d1] 33) := ⟨_, rfl⟩
 have hz0 : W0.heap.size = w.heap.size + 1 + 1 := by rw [hW0]; simp
 have HBW0 := Lib.hid (show Below w.heap.size w W0 by rw [hW0]; exact HB0.out.alloc (by simp) _)
 have HXM0 := Lib.hid (show Blk W0 w.heap.size 41 #[.slice A0 ns c0, .slice A1 na c1, .slice A2 ni c2, .slice A3 nm c3] by rw [hW0]; exact HX0.out.alloc _)
 have HXS0 := Lib.hid (show Blk W0 (w.heap.size + 1) 33 #[.slice V0 nv d0, .slice V1 nw d1] by rw [hW0]; exact blk_new_at (by simp))
 have HW0 := Lib.hid hW0
 clear hW0
 rw [HNV.out.1] at hvl
 obtain rfl : ns = nv := hvl.symm
 have Hlen := Lib.hid (And.intro hno (And.intro hni hil))
 have hno30 : no ≤ 30 := by omega
 have hni30 : ni' ≤ 30 := by have := widthsM_len m 0; omega
 clear ho hin hok hf hvb hno hni hws
 go_enter Try.func122, Try.ntmps122
 go_wp2_with fail
 rw [← HW0.out]
 refine (i_copyInts (HV0.out.under hS2 HBW0.out) (fun b hb => by have := hS2 b hb; omega) (by omega)).mono ?_
 rintro e w1 ⟨go, cc, rfl, hown, hb1⟩
 obtain ⟨V, hV⟩ : ∃ V, V = natL st.1 := ⟨_, rfl⟩
 have hVl : V.length = m.1.length := by rw [hV]; unfold natL; rw [List.length_map, HNV.out.1, Hn.out.1]
 rw [hvn, ← hV, ← inpK_zero ins hVl] at hown
 have HO1 := Lib.hid hown
 have HB1 := Lib.hid (HBW0.out.trans (hb1.mono (by omega)))
 have HX1 := Lib.hid (HXM0.out.below hb1 HXM0.out.lt)
 have z1 := hb1.size
 have hgo := hown.lt go rfl
 have HV := Lib.hid hV
 have HVl := Lib.hid hVl
 obtain ⟨y0, y1, y2, y3⟩ := blkS4 HX1.out
 clear hb1 hown hV hVl
 go_wp2_with fail
 clear y0 y1 y2 y3
 go_loopw [10, 11, 12, 22] (fun kv _ _ iv wr => ∃ k : Nat, k ≤ ns ∧ iv = .int .i64 k ∧ kv = .int .i64 (cntIn m k : Nat) ∧ wr.ownsRow W0.heap.size 3 1 (.slice (some ⟨go, 0, none⟩) ns cc) ns (ints (nI (inpK m V ins k))) ∧ Only (fun b => b = go) w1 wr) (fun _ _ _ iv _ => ns - (intOf iv).toNat)
 case atStart => exact ⟨0, Nat.zero_le _, rfl, rfl, HO1.out, Only.refl _ _⟩
 case round =>
  obtain ⟨k, hk, rfl, rfl, hown, ho⟩ := hrel
  have Ho := Lib.hid ho
  have Hown := Lib.hid hown
  have hsz := ho.size
  have Hbr := Lib.hid (ho.below (B := W0.heap.size) (by omega) (fun b hb => by omega))
  have Hbw := Lib.hid (HB1.out.trans (Hbr.out.mono (by omega)))
  have HXr := Lib.hid (Only.blk ho HX1.out (by omega))
  obtain ⟨y0, y1, y2, y3⟩ := blkS4 HXr.out
  have g1 : (0 : Int) ≤ (k : Int) := by omega
  clear ho hown
  by_cases hlt : k < ns
  ·obtain ⟨ad, x0, x1, x2, rfl, hab, hx, e0, e1, e2⟩ := fSignalS_row (HSg.out.under hS Hbw.out) hlt
   have g2 : (k : Int) < (ns : Int) := by omega
   have hw4 := flat_wid HF.out hx
   simp only at hw4
   obtain ⟨W1, hW1⟩ : ∃ W1, W1 = wr.alloc (.cells #[.int .i64 x0, .int .i64 x1, .int .i64 x2] 99) := ⟨_, rfl⟩
   have HOw1 := Lib.hid (show W1.ownsRow W0.heap.size 3 1 (.slice (some ⟨go, 0, none⟩) ns cc) ns (ints (nI (inpK m V ins k))) by rw [hW1]; exact Hown.out.alloc _)
   have Ho1 := Lib.hid (show Only (fun b => b = go) w1 W1 by rw [hW1]; exact Ho.out.alloc _)
   have HXb := Lib.hid (show Blk W1 wr.heap.size 99 #[.int .i64 x0, .int .i64 x1, .int .i64 x2] by rw [hW1]; exact Blk.new _ _ _)
   have hW1b := Lib.hid (show Below wr.heap.size wr W1 by rw [hW1]; exact (Below.refl _ _).alloc (Nat.le_refl _) _)
   by_cases h0 : x0 = 0
   ·subst h0
    have hcl : cntIn m k < ni' := by have h1 := cntIn_lt hx rfl (by rw [Hn.out.1]; exact hn30); have := Hlen.out; omega
    obtain ⟨adi, xi, rfl, habi, hxi, ei⟩ := fIntS_row (Hins.out.under hS4 (Hbw.out.trans (hW1b.out.mono (by omega)))) hcl
    have hb := and_cut (x := xi) (mskN_is hw4)
    have Hs := Lib.hid (inpK_set (m := m) (vs := V) (ins := ins) (k := k) (by rw [Hn.out.1]; exact hlt))
    have Hia := Lib.hid (show inpA m V ins k = cutN xi (mskN x1) by unfold inpA; rw [kindAt_get hx, widAt_get hx]; simp [List.getD, hxi])
    have Hcn := Lib.hid (show cntIn m (k + 1) = cntIn m k + 1 by rw [cntIn_succ hx]; rfl)
    have hbi : adi.block < W1.heap.size := by have := hS4 _ habi; have := Hbw.out.size; have := hW1b.out.size; omega
    obtain ⟨cn, hcn⟩ : ∃ cn, cn = cntIn m k := ⟨_, rfl⟩
    rw [← hcn] at hcl Hcn ei ⊢
    have g3 : (0 : Int) ≤ (cn : Int) := by omega
    have g4 : (cn : Int) < (ni' : Int) := by omega
    obtain ⟨zo, hzo, hc⟩ := own_nat_at HOw1.out hlt
    have hfz := HOw1.out.frozenAt k
    clear hx hxi hzo hcn
    go_wp2_with fail
    rw [← hW1]
    clear hW1 y0 y1 y2 y3 e0 e1 e2
    refine wp_region_lexC (by kernel_rfl) (by kernel_rfl) (fun x => Below W1.heap.size W1 x) ((Below.refl _ _).drew) (fun lexNE => ?_)
    obtain ⟨cx0, cx1, cx2⟩ := bw3 HXb.out HXb.out.lt
    have ci := wcell (B := W1.heap.size) ei (by rw [block_of_add]; exact hbi)
    (repeat (first | (refine lex_r fun K hK => ?_; go_big_quiet_op; refine hK _ ?_; clear hK K) | (refine lex_k fun K hK => ?_; go_simp; refine hK _ ?_; clear hK K)))
    (refine lex_e fun K hK => ?_; go_big_op)
    refine (i_widthMask x1 (by omega) _).mono ?_
    rintro e w9 ⟨rfl, rfl⟩
    refine hK _ _ (Cls.mk' ((Below.refl _ _).drew)) ?_
    clear hK K
    (repeat (first | (refine lex_r fun K hK => ?_; go_big_quiet_op; refine hK _ ?_; clear hK K) | (refine lex_k fun K hK => ?_; go_simp; refine hK _ ?_; clear hK K)))
    (refine lex_l fun K hK => ?_; go_big_op)
    (refine hK _ _ ?_; clear hK K)
    clear lexNE cx0 cx1 cx2 ci
    go_wp2_with fail
    go_roundw
    case rel =>
     refine ⟨k + 1, by omega, by go_num, by rw [Hcn.out]; go_num, ?_, ?_⟩
     ·rw [← Hs.out, Hia.out]
      have h1 := HOw1.out.stored k (.int .i64 ((cutN xi (mskN x1) : Nat) : Int))
      rw [show ints (nI ((inpK m V ins k).set k (cutN xi (mskN x1)))) = (ints (nI (inpK m V ins k))).set k (.int .i64 ((cutN xi (mskN x1) : Nat) : Int)) by rw [nI_lit, nI_lit, List.map_set]]
      exact own_drew h1.1
     ·exact (Ho1.out.setCell (p := ⟨go, k, none⟩) (.inl rfl) _).drew
    case measure => simp [intOf]; omega
   ·have q0 : (x0 == 0) = false := by simpa using h0
    have Hs := Lib.hid (inpK_same (m := m) (vs := V) (ins := ins) (k := k) (by rw [Hn.out.1]; exact hlt) (by rw [kindAt_get hx]; exact h0))
    have Hcn := Lib.hid (show cntIn m (k + 1) = cntIn m k by rw [cntIn_succ hx, if_neg h0]; rfl)
    clear h0 hx
    go_wp2_with fail
    rw [← hW1]
    go_roundw
    case rel => exact ⟨k + 1, by omega, by go_num, by rw [Hcn.out], by rw [← Hs.out]; exact HOw1.out, Ho1.out⟩
    case measure => simp [intOf]; omega
  ·have hge : (ns : Int) ≤ (k : Int) := by omega
   have hkn : k = ns := by omega
   have HE := Lib.hid (show wr.ownsRow W0.heap.size 3 1 (.slice (some ⟨go, 0, none⟩) ns cc) ns (ints (nI (runV m (inpL m V ins) ((ordN m).take 0)))) by
    have h1 := Hown.out
    rw [hkn, ← Hn.out.1, inpK_end, Hn.out.1] at h1
    exact h1)
   clear hkn
   go_wp2_with fail
   clear y0 y1 y2 y3 hge
   go_loopw [14, 15, 46] (fun _ _ iv wr => ∃ k : Nat, k ≤ no ∧ iv = .int .i64 k ∧ wr.ownsRow W0.heap.size 3 1 (.slice (some ⟨go, 0, none⟩) ns cc) ns (ints (nI (runV m (inpL m V ins) ((ordN m).take k)))) ∧ Only (fun b => b = go) w1 wr) (fun _ _ iv _ => no - (intOf iv).toNat)
   case atStart => exact ⟨0, Nat.zero_le _, rfl, HE.out, Ho.out⟩
   case round =>
    clear HE Hown Ho hsz Hbw HXr g1 Hbr
    obtain ⟨k, hk, rfl, hown, ho⟩ := hrel
    have Ho := Lib.hid ho
    have Hown := Lib.hid hown
    have hsz := ho.size
    have Hbr := Lib.hid (ho.below (B := W0.heap.size) (by omega) (fun b hb => by omega))
    have Hbw := Lib.hid (HB1.out.trans (Hbr.out.mono (by omega)))
    have HXr := Lib.hid (Only.blk ho HX1.out (by omega))
    obtain ⟨y0, y1, y2, y3⟩ := blkS4 HXr.out
    have g1 : (0 : Int) ≤ (k : Int) := by omega
    clear ho hown
    by_cases hlt : k < no
    ·obtain ⟨ado, i, rfl, habo, hoi, eo⟩ := rep_nat_at (Hord.out.under hS2' Hbw.out) hlt
     have hin := Hom.out i (List.mem_of_getElem? hoi)
     rw [Hn.out.2.1] at hin
     obtain ⟨ad2, a, os, A1', c1', rfl, hab2, hx, hro, hom, t0, t1⟩ := asg_row (HAs.out.under hS Hbw.out) hin
     obtain ⟨s, x, rfl, hxs, hw4a, hw4b⟩ := tgt_wid HF.out hx
     have hsn : s < ns := by have := (List.getElem?_eq_some_iff.1 hxs).1; have := Hn.out.1; omega
     obtain ⟨W1, hW1⟩ : ∃ W1, W1 = wr.alloc (.cells #[.int .i64 (s : Int), .slice A1' os.length c1'] 97) := ⟨_, rfl⟩
     have hW1b := Lib.hid (show Below wr.heap.size wr W1 by rw [hW1]; exact (Below.refl _ _).alloc (Nat.le_refl _) _)
     obtain ⟨ad, x0, x1, x2, rfl, hab, hxs', e0, e1, e2⟩ := fSignalS_row (HSg.out.under hS (Hbw.out.trans (hW1b.out.mono (by omega)))) hsn
     obtain rfl : (x0, x1, x2) = x := by rw [hxs] at hxs'; injection hxs' with h1; exact h1.symm
     simp only at hw4a hw4b
     obtain ⟨VV, hVV⟩ : ∃ VV, VV = runV m (inpL m V ins) ((ordN m).take k) := ⟨_, rfl⟩
     rw [← hVV] at Hown
     have Hs := Lib.hid (show runV m (inpL m V ins) ((ordN m).take (k + 1)) = VV.set s (evF os VV (mskN x1)) by
      rw [runV_take hoi, ← hVV]
      unfold asgV
      rw [asgA_get hx, widAt_get hxs]
      simp)
     have hVl : VV.length = m.1.length := by rw [hVV, runV_len]; simp [inpL]
     have hVb : ∀ x ∈ VV, x ≤ 15 := by
      rw [hVV]
      refine runV_bd HF.out _ _ (fun j hj => Hom.out j (List.mem_of_mem_take hj)) (fun y hy => ?_)
      rw [← inpK_end, HV.out] at hy
      exact inpL_bd HF.out Hvb.out _ y hy
     obtain ⟨hob, hev⟩ := ev_asg HF.out hx VV (mskN x1)
     rw [← hVl] at hob
     have hbs : ad.block < W1.heap.size := by have := hS _ hab; have := Hbw.out.size; have := hW1b.out.size; omega
     have HOw1 := Lib.hid (show W1.ownsRow W0.heap.size 3 1 (.slice (some ⟨go, 0, none⟩) ns cc) ns (ints (nI VV)) by rw [hW1]; exact Hown.out.alloc _)
     have Ho1 := Lib.hid (show Only (fun b => b = go) w1 W1 by rw [hW1]; exact Ho.out.alloc _)
     have HXb := Lib.hid (show Blk W1 wr.heap.size 97 #[.int .i64 (s : Int), .slice A1' os.length c1'] by rw [hW1]; exact Blk.new _ _ _)
     have HXm1 := Lib.hid (HXr.out.below hW1b.out (by omega))
     have hops : RepB W1.drew W1.drew.heap.size (.slice A1' os.length c1') (fOpS os) := (hro.under (B := wr.heap.size) (fun b hb => by have := hS b hb; omega) hW1b.out).drew.mono (fun b hb => by have := hS b hb; have := hW1b.out.size; show b < W1.heap.size; omega)
     have hvals : RepB W1.drew W1.drew.heap.size (.slice (some ⟨go, 0, none⟩) ns cc) (fIntS (nI VV)) := own_repB (by unfold maxLen; omega) (own_drew HOw1.out)
     have HC := Lib.hid (i_exprAt ⟨hw4a, hw4b⟩ hob hVb hev _ _ _ _ _ _ _ hops hvals)
     obtain ⟨ve, hve⟩ : ∃ ve, ve = evF os VV (mskN x1) := ⟨_, rfl⟩
     rw [← hve] at HC Hs
     have g2 : (k : Int) < (no : Int) := by omega
     have g3 : (0 : Int) ≤ (i : Int) := by omega
     have g4 : (i : Int) < (na : Int) := by omega
     have g5 : (0 : Int) ≤ (s : Int) := by omega
     have g6 : (s : Int) < (ns : Int) := by omega
     clear hoi hx hxs hxs' hro hom hVV hVl hVb hob hev hops hvals hve
     go_wp2_with fail
     rw [← hW1]
     clear hW1 y0 y1 y2 y3 t0 t1 e0 e2 eo
     have hgw : go < W1.heap.size := (HOw1.out.lt go rfl).2
     have hne0 : w.heap.size ≠ go := by omega
     have hne1 : wr.heap.size ≠ go := by have := (Hown.out.lt go rfl).2; omega
     have hne2 : ad.block ≠ go := by have := hS _ hab; omega
     refine wp_region_lexC (by kernel_rfl) (by kernel_rfl) (fun x => Only (fun b => b = go) W1 x) ((Only.refl _ _).drew) (fun lexNE => ?_)
     obtain ⟨dm0, dm1, dm2, dm3⟩ := blkS4 HXm1.out
     obtain ⟨dx0, dx1⟩ := blkS2 HXb.out
     have cm0 := ocell (S := fun b => b = go) dm0 HXm1.out.lt hne0
     have cx0 := ocell (S := fun b => b = go) dx0 HXb.out.lt hne1
     have cx1 := ocell (S := fun b => b = go) dx1 HXb.out.lt hne1
     have cw := ocell (S := fun b => b = go) e1 (by rw [nxt_block]; exact hbs) (by rw [nxt_block]; exact hne2)
     clear dm0 dm1 dm2 dm3 dx0 dx1
     (repeat (first | (refine lex_r fun K hK => ?_; go_big_quiet_op; refine hK _ ?_; clear hK K) | (refine lex_k fun K hK => ?_; go_simp; refine hK _ ?_; clear hK K)))
     (refine lex_e fun K hK => ?_; go_big_op)
     refine (HC.out).mono ?_
     rintro e w8 ⟨rfl, hb8⟩
     have H8 := Lib.hid ((Below.refl W1.heap.size W1).drew.trans hb8)
     have HOw8 := Lib.hid (own_below HOw1.out H8.out (Nat.le_refl _))
     obtain ⟨zo, hzo, hc⟩ := own_nat_at HOw8.out hsn
     have hfz := HOw8.out.frozenAt s
     refine hK _ _ (Cls.mk' (Only.of_below H8.out _)) ?_
     clear hK K hb8 hzo
     (repeat (first | (refine lex_r fun K hK => ?_; go_big_quiet_op; refine hK _ ?_; clear hK K) | (refine lex_k fun K hK => ?_; go_simp; refine hK _ ?_; clear hK K)))
     (refine lex_e fun K hK => ?_; go_big_op)
     refine hK _ _ (Cls.mk' ((Only.of_below H8.out (fun b => b = go)).setCell (p := ⟨go, s, none⟩) (.inl rfl) _)) ?_
     clear hK K
     (repeat (first | (refine lex_r fun K hK => ?_; go_big_quiet_op; refine hK _ ?_; clear hK K) | (refine lex_k fun K hK => ?_; go_simp; refine hK _ ?_; clear hK K)))
     (refine lex_nil ?_)
     clear lexNE cm0 cx0 cx1 cw
     go_wp2_with fail
     go_roundw
     case rel =>
      refine ⟨k + 1, by omega, by go_num, ?_, ?_⟩
      ·rw [Hs.out]
       have h1 := HOw8.out.stored s (.int .i64 (ve : Int))
       rw [show ints (nI (VV.set s ve)) = (ints (nI VV)).set s (.int .i64 (ve : Int)) by rw [nI_lit, nI_lit, List.map_set]]
       exact h1.1
      ·exact (Ho1.out.trans (Only.of_below H8.out (fun b => b = go))).setCell (p := ⟨go, s, none⟩) (.inl rfl) _
     case measure => simp [intOf]; omega
    ·have hge : (no : Int) ≤ (k : Int) := by omega
     have HE2 := Lib.hid (show wr.ownsRow W0.heap.size 3 1 (.slice (some ⟨go, 0, none⟩) ns cc) ns (ints (nI (sigN m st ins))) by
      have h1 := Hown.out
      rw [List.take_of_length_le (by have := Hlen.out.1; omega), HV.out] at h1
      exact h1)
     go_wp2_with fail
     go_ret
     exact ⟨_, rfl, sep_ints (by unfold maxLen; omega) HE2.out (fun g hg => ⟨by have := (HE2.out.lt g hg).1; omega, (HE2.out.lt g hg).2⟩), Hbw.out⟩
end Go.Proofs.Ytlkjdhjeecogjaa
