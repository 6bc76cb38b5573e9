/- Law of needed cubes: for every code no cube and no literal of a minimal cover of the drawn table can be dropped. Conditions: none. -/
import Derived.Test.YtbkgjgpoohlieaaFrame3
import Derived.Test.YtbkgjgpoohlieaaDrawT
import Derived.Test.YtbkgjgpoohlieaaCovL
import Derived.Test.YtbkgjgpoohlieaaApk
import Derived.Outline
import Derived.Deep.DeepCutAuto
namespace Go.Proofs.Ytbkgjgpoohlieaa
open Go.ChangeShapes Go.WideShapes Go.ChangeAt Go.RowKit
attribute [local go_sem] i64_and1

theorem Reads.castAt {w : World} {B n : Nat} {A : Option Addr} {L : List Tb.Cb} (h : Reads w B 2 A n (cbs (castL L))) {k : Nat} (hk : k < n) :
  ∃ (ad : Addr) (x : Tb.Cb), A = some ad ∧ ad.block < B ∧ L[k]? = some x ∧ w.cell? (ad.add (k * 2)) = some (.int .i64 (x.1 : Nat)) ∧ w.cell? (nxt (ad.add (k * 2)) 1) = some (.int .i64 (x.2 : Nat)) := by
 obtain ⟨ad, c, v, rfl, hb, hx, h0, h1⟩ := h.cube_at hk
 have hl : k < L.length := by
  have := (List.getElem?_eq_some_iff.1 hx).1
  simpa [castL] using this
 have hxx : L[k]? = some L[k] := List.getElem?_eq_getElem hl
 rw [castL_get hxx] at hx
 injection hx with hx
 injection hx with e1 e2
 exact ⟨ad, L[k], rfl, hb, hxx, by rw [e1]; exact h0, by rw [e2]; exact h1⟩

set_option maxRecDepth 100000 in
set_option maxHeartbeats 16000000 in
theorem walk_FnCoverNeedsAll (A0 : Option Addr) (n0 c0 : Nat) (l : List UInt8) (w : World) (hr : Reads w w.heap.size 1 A0 n0 (bys l)) : Calls Try.prog 11 #[.slice A0 n0 c0] w fun e w' => e = .returned (.bool true) ∧ Below w.heap.size w w' := by
 obtain ⟨i0, hi, hz0, hz1, hz2⟩ := info_parts Try.infoCube
 by_cases hb : n0 ≤ 1048576
 ·go_enter Try.func11, Try.ntmps11
  go_wp2_with (first | (go_at_call 12; go_in))
  refine (s_DrawTable hr hb).mono ?_
  rintro e w1 ⟨m, b0, ix, rfl, hok, hi0, hi1, hb1⟩
  obtain ⟨hm, b, rfl, hbb⟩ := tOk_split hok
  have Hok := Lib.hid hok
  have Hm := Lib.hid hm
  have hm0 := (inR_iff.1 hm).1
  have hm1 := (inR_iff.1 hm).2
  obtain ⟨N, hN⟩ : ∃ N : Nat, N = m.toNat := ⟨_, rfl⟩
  have hN1 : (N : Int) ≤ m := by omega
  have hN2 : m ≤ (N : Int) := by omega
  have hN4 : N ≤ 4 := by omega
  have HN := Lib.hid hN
  have HT1 := Lib.hid (Blk.new w1 31 #[.int .i64 m, .int .i64 b])
  have Hb1 := Lib.hid (hb1.alloc hb1.size (.cells #[.int .i64 m, .int .i64 b] 31))
  have He1 := Lib.hid (show mCubes m b = castL (Tb.minimal m.toNat b) by rw [mCubes, if_pos hok]; rfl)
  have He2 := Lib.hid (show pCubes m b = castL (Tb.prs m.toNat b) by rw [pCubes, if_pos hok]; rfl)
  obtain ⟨L, hL⟩ : ∃ L, L = Tb.minimal m.toNat b := ⟨_, rfl⟩
  have hsub := minimal_sub hok
  have hL81 : L.length ≤ 81 := by rw [hL]; exact Nat.le_trans hsub.length_le (Tb.prs_len (by omega))
  have HC1 := Lib.hid (show cTab m (castL L) = (m, (b : Int)) by rw [hL, cTab_prs hm hsub, minimal_tab hok])
  have HEl := Lib.hid (fun k x (h : L[k]? = some x) => (show cOk m x.1 x.2 = true ∧ x.1 < 16 ∧ x.2 < 16 from cEl hm (hL ▸ hsub) h))
  have Hsub := Lib.hid (show L.Sublist (Tb.prs m.toNat b) by rw [hL]; exact hsub)
  have HNeed := Lib.hid (fun k (h : k < L.length) => (show Tb.ctab (2 ^ m.toNat) (L.eraseIdx k) ≠ b by rw [hL] at h ⊢; exact minimal_needs hok h))
  have Hlit := Lib.hid (show Tb.lits m.toNat L ≤ Tb.lits m.toNat (Tb.prs m.toNat b) by rw [hL]; exact Tb.lits_le hsub)
  have hP81 : (Tb.prs m.toNat b).length ≤ 81 := Tb.prs_len (by omega)
  rw [← hL] at He1
  have z1 := hb1.size
  clear hsub hok hm hi0 hi1 hb1 hL hbb hN
  go_wp2_with fail
  refine (i_MinimalCover _ _ _).mono ?_
  rw [He1.out]
  rintro e w2 ⟨A, c, rfl, hown2, hb2⟩
  rw [castL_len] at hown2 ⊢
  obtain ⟨A', c', hv, hcap, hcm, _⟩ := own_form hown2
  injection hv with hv1 hv2 hv3
  subst hv1 hv3
  have HO2 := Lib.hid (own_mono hown2 (base' := w.heap.size) (by simp; omega))
  have HT2 := Lib.hid (HT1.out.below hb2 HT1.out.lt)
  have Hb2 := Lib.hid (Hb1.out.trans (hb2.mono Hb1.out.size))
  have lT2 := HT2.out.lt
  have z2 := hb2.size
  simp at z2
  obtain ⟨t0, t1⟩ := blk2c HT2.out
  clear hown2 hb2 HT1 Hb1
  go_wp2_with fail
  refine wp_region_lexC (by kernel_rfl) (by kernel_rfl) (fun x => Below w2.heap.size w2 x) ((Below.refl _ _).drew) (fun lexNE => ?_)
  have cT := wd_blk t0 t1 lT2
  obtain ⟨cT0, cT1⟩ := cT
  (repeat (first | (refine lex_r fun K hK => ?_; go_big_quiet_op; refine hK _ ?_; clear hK K) | (refine lex_k fun K hK => ?_; go_simp; refine hK _ ?_; clear hK K)))
  (refine lex_e fun K hK => ?_; go_big_op)
  refine (i_CoverTable m (Reads.of_own HO2.out).drew (by simp) (by omega)).mono ?_
  rw [HC1.out]
  rintro e w3 ⟨rfl, hb3⟩
  have H3 := Lib.hid ((Below.refl w2.heap.size w2).drew.trans hb3)
  refine hK _ _ (Cls.mk' H3.out) ?_
  clear hK K hb3
  (repeat (first | (refine lex_r fun K hK => ?_; go_big_quiet_op; refine hK _ ?_; clear hK K) | (refine lex_k fun K hK => ?_; go_simp; refine hK _ ?_; clear hK K)))
  (refine lex_nil ?_)
  clear lexNE cT0 cT1 t0 t1
  have HT3 := Lib.hid (HT2.out.below H3.out lT2)
  have Hb3 := Lib.hid (Hb2.out.trans (H3.out.mono Hb2.out.size))
  have HO3 := Lib.hid (own_below HO2.out H3.out (Nat.le_refl _))
  clear HT2 Hb2 HO2 H3
  go_wp2_with fail
  go_loopw [6, 7, 8, 9] (fun kv _ _ _ wr => ∃ k : Nat, k ≤ L.length ∧ kv = .int .i64 k ∧ wr.ownsRow w.heap.size 61 2 (.slice A L.length c) L.length (cbs (castL L)) ∧ Blk wr w1.heap.size 31 #[.int .i64 m, .int .i64 b] ∧ Below w.heap.size w wr) (fun kv _ _ _ _ => L.length - (intOf kv).toNat)
  case atStart => exact ⟨0, Nat.zero_le _, rfl, HO3.out, HT3.out, Hb3.out⟩
  case round =>
   obtain ⟨k, hk, rfl, hO, hT, hbr⟩ := hrel
   have HO := Lib.hid hO
   have HT := Lib.hid hT
   have Hb := Lib.hid hbr
   have lT := hT.lt
   have zr := hbr.size
   clear hO hT hbr HO3 HT3 Hb3
   by_cases hlt : k < L.length
   ·have g1 : (0 : Int) ≤ (k : Int) := by omega
    have g2 : (k : Int) ≤ (L.length : Int) := by omega
    have g3 : (k : Int) + 1 ≤ (L.length : Int) := by omega
    have g4 : (L.length : Int) ≤ (c : Int) := by omega
    have g5 : (k : Int) < (L.length : Int) := by omega
    go_wp2_with fail
    have HO1 := Lib.hid ((HO.out).alloc (.cells #[] 61))
    have HE := Lib.hid (World.ownsRow_made (base := wr.heap.size) (size := 2) (e := 61) wr #[] 0 (by omega) (by unfold maxLen; omega) rfl)
    have RF := Lib.hid (show Reads (wr.alloc (.cells #[] 61)).drew wr.heap.size 2 A k (cbs (castL (L.take k))) by have h1 := ((((Reads.of_own HO.out).alloc (Nat.le_refl _) (.cells #[] 61)).drew).front (k := k) (by omega)); rw [cbs_take] at h1; rw [castL, List.map_take]; exact h1)
    refine wp_region_lexC (by kernel_rfl) (by kernel_rfl) (fun _ => True) (trivial) (fun lexNE => ?_)
    (repeat (first | (refine lex_r fun K hK => ?_; go_big_quiet_op; refine hK _ ?_; clear hK K) | (refine lex_k fun K hK => ?_; go_simp; refine hK _ ?_; clear hK K)))
    (refine lex_e fun K hK => ?_; go_big_op)
    refine hK _ _ (Cls.mk' trivial) ?_
    clear hK K
    (repeat (first | (refine lex_r fun K hK => ?_; go_big_quiet_op; refine hK _ ?_; clear hK K) | (refine lex_k fun K hK => ?_; go_simp; refine hK _ ?_; clear hK K)))
    refine lex_e fun K hK => ?_
    refine wp_append_any _ _ _ 49 (by rfl) wr.heap.size 61 i0 (.agg #[.int .i64 0, .int .i64 0]) 2 16 Try.underlying49 hi hz0 hz1 hz2 rfl (by decide) _ _ _ (by rfl) (own_drew HE.out) _ _ _ _ _ (by rfl) RF.out (cbs_one _) (by unfold maxLen; omega) (by omega) (by (try simp) <;> (try omega)) ?_
    intro v1 w5 hown5 hgrow5 hblk5
    go_simp
    simp only [Nat.zero_add, List.nil_append] at hown5
    obtain ⟨A1, c1, rfl, _, _, _⟩ := own_form hown5
    have HO5 := Lib.hid hown5
    refine hK _ _ (Cls.mk' trivial) ?_
    clear hK K
    have HbA := Lib.hid (((Below.refl wr.heap.size wr).alloc (Nat.le_refl _) (.cells #[] 61)).drew.trans (below_of_grown hgrow5 (by simp) (fun g hg => by simp [Value.ownBlock] at hg; omega)))
    have RL := Lib.hid (show Reads w5 wr.heap.size 2 (if c = k + 1 then A else A.map (·.add ((k + 1) * 2))) (L.length - (k + 1)) (cbs (castL (L.drop (k + 1)))) by
     have h1 := ((Reads.of_own HO.out).below HbA.out).cut (k := k + 1) (cap := c) (by omega) hcap
     rw [cbs_drop] at h1
     rw [castL, List.map_drop]
     exact h1)
    clear hgrow5 hblk5 hown5
    (repeat (first | (refine lex_r fun K hK => ?_; go_big_quiet_op; refine hK _ ?_; clear hK K) | (refine lex_k fun K hK => ?_; go_simp; refine hK _ ?_; clear hK K)))
    generalize (if c = k + 1 then A else Option.map (fun x => x.add ((k + 1) * 2)) A) = AX at RL ⊢
    refine lex_e fun K hK => ?_
    refine wp_append_any _ _ _ 49 (by rfl) wr.heap.size 61 i0 (.agg #[.int .i64 0, .int .i64 0]) 2 16 Try.underlying49 hi hz0 hz1 hz2 rfl (by decide) _ _ _ (by rfl) HO5.out _ _ _ _ _ (by rfl) RL.out (cbs_one _) (by unfold maxLen; omega) (by omega) HbA.out.size ?_
    intro v6 w6 hown6 hgrow6 hblk6
    go_simp
    obtain ⟨L', hL'⟩ : ∃ L', L' = L.eraseIdx k := ⟨_, rfl⟩
    have hlen' : L'.length = k + (L.length - (k + 1)) := by rw [hL', List.length_eraseIdx_of_lt (by omega)]; omega
    have hcat : cbs (castL (L.take k)) ++ cbs (castL (L.drop (k + 1))) = cbs (castL L') := by rw [hL', List.eraseIdx_eq_take_drop_succ, castL_app]; exact (recs_app _ _).symm
    rw [hcat, ← hlen'] at hown6
    obtain ⟨A6, c6, rfl, _, _, _⟩ := own_form hown6
    have Hbb := Lib.hid (HbA.out.trans (below_of_grown hgrow6 HbA.out.size (fun g hg => (HO5.out.lt g hg).1)))
    have HO6 := Lib.hid hown6
    have HL' := Lib.hid hL'
    have Hlen' := Lib.hid hlen'
    have hle' : L'.length ≤ L.length := by omega
    have z6 := Hbb.out.size
    clear hown6 hgrow6 hblk6 hcat hL' hlen'
    refine hK _ _ (Cls.mk' trivial) ?_
    clear hK K
    (repeat (first | (refine lex_r fun K hK => ?_; go_big_quiet_op; refine hK _ ?_; clear hK K) | (refine lex_k fun K hK => ?_; go_simp; refine hK _ ?_; clear hK K)))
    (refine lex_nil ?_)
    clear lexNE HbA RL RF HO5 HE HO1
    have hsub' := (List.eraseIdx_sublist L k).trans Hsub.out
    rw [← HL'.out] at hsub'
    have Hsub' := Lib.hid hsub'
    have HT6 := Lib.hid (HT.out.below Hbb.out lT)
    have hct := cTab_prs Hm.out hsub'
    have Hct := Lib.hid hct
    have Hne := Lib.hid (show Tb.ctab (2 ^ m.toNat) L' ≠ b by rw [HL'.out]; exact HNeed.out k hlt)
    have lT6 := HT6.out.lt
    obtain ⟨t0, t1⟩ := blk2c HT6.out
    clear hsub' hct
    go_wp2_with fail
    refine wp_region_lexC (by kernel_rfl) (by kernel_rfl) (fun x => Below w6.heap.size w6 x) ((Below.refl _ _).drew) (fun lexNE => ?_)
    have cT := wd_blk t0 t1 lT6
    obtain ⟨cT0, cT1⟩ := cT
    (repeat (first | (refine lex_r fun K hK => ?_; go_big_quiet_op; refine hK _ ?_; clear hK K) | (refine lex_k fun K hK => ?_; go_simp; refine hK _ ?_; clear hK K)))
    (refine lex_e fun K hK => ?_; go_big_op)
    refine (i_CoverTable m ((Reads.of_own HO6.out).drew) (by simp) (by omega)).mono ?_
    rw [Hct.out]
    rintro e w7 ⟨rfl, hb7⟩
    have H7 := Lib.hid ((Below.refl w6.heap.size w6).drew.trans hb7)
    refine hK _ _ (Cls.mk' H7.out) ?_
    clear hK K hb7
    have HO7 := Lib.hid (own_below HO6.out H7.out (Nat.le_refl _))
    have Hw7 := Lib.hid (Hbb.out.trans (H7.out.mono z6))
    generalize Tb.ctab (2 ^ m.toNat) L' = T at Hne
    have q1 : ((T : Int) == (b : Int)) = false := by rw [castEq]; exact decide_eq_false Hne.out
    (repeat (first | (refine lex_r fun K hK => ?_; go_big_quiet_op; refine hK _ ?_; clear hK K) | (refine lex_k fun K hK => ?_; go_simp; refine hK _ ?_; clear hK K)))
    (refine lex_nil ?_)
    clear lexNE cT0 cT1 t0 t1 q1
    go_wp2_with fail
    clear HT6 HO6 Hbb H7 z6 lT6
    obtain ⟨wo, hwo⟩ : ∃ wo : World, wo = wr := ⟨_, rfl⟩
    rw [← hwo] at HO HT Hb lT zr Hw7 HO7
    clear hwo
    obtain ⟨ad, x, hA, hab, hx, hc0, hc1⟩ := (Reads.of_own HO.out).castAt hlt
    subst hA
    obtain ⟨hxo, hx1, hx2⟩ := HEl.out k x hx
    have HxP := Lib.hid (Hsub.out.subset (List.mem_of_getElem? hx))
    obtain ⟨x1, x2⟩ := x
    simp only at hx1 hx2 hc0 hc1 HxP
    have Hc0 := Lib.hid hc0
    have Hc1 := Lib.hid hc1
    clear hx hxo hc0 hc1
    go_loopw [8, 9] (fun qv _ wx => ∃ q : Nat, q ≤ N ∧ qv = .int .i64 q ∧ wx.ownsRow wo.heap.size 61 2 (.slice A6 L'.length c6) L'.length (cbs (castL L')) ∧ Below wo.heap.size wo wx) (fun qv _ _ => 4 - (intOf qv).toNat)
    case atStart => exact ⟨0, Nat.zero_le _, rfl, HO7.out, Hw7.out⟩
    case round =>
     obtain ⟨q, hq, rfl, hR, hw⟩ := hrel
     have HR := Lib.hid hR
     have Hw := Lib.hid hw
     have zx := hw.size
     have HTx := Lib.hid (HT.out.below hw lT)
     have lTx := HTx.out.lt
     obtain ⟨t0, t1⟩ := blk2c HTx.out
     have e0 := (hw.cell (p := ad.add (k * 2)) (by rw [block_of_add]; omega)).trans Hc0.out
     have e1 := (hw.cell (p := nxt (ad.add (k * 2)) 1) (by rw [nxt_block]; omega)).trans Hc1.out
     clear hR hw HO7 Hw7
     by_cases hqN : q < N
     ·have g6 : (q : Int) < m := by omega
      have mq : min q 64 = q := by omega
      have hbi := bit_int x1 q
      cases ht : x1.testBit q
      ·rw [ht] at hbi
       simp only [Bool.false_eq_true, if_false] at hbi
       clear ht
       go_wp2_with fail
       clear hbi
       go_roundw
       case rel => exact ⟨q + 1, by omega, by go_num, HR.out, Hw.out⟩
       case measure => simp [intOf]; omega
      ·rw [ht] at hbi
       simp only [if_true] at hbi
       have Hwide := Lib.hid (Tb.wide_not (rest := L') HxP.out (show q < m.toNat by rw [← HN.out]; exact hqN) ht)
       have Hcw := Lib.hid (cTab_wide (k := q) Hm.out Hsub'.out (by have := Hlen'.out; omega) HxP.out)
       obtain ⟨P, hP⟩ : ∃ P, P = 2 ^ q := ⟨_, rfl⟩
       have hP16 : P ≤ 16 := by
        have : 2 ^ q ≤ 2 ^ 4 := Tb.pow_mono (by omega)
        omega
       have HP1 := Lib.hid (show wrap64 ((2 : Int) ^ q) = (P : Int) by rw [hP]; exact w64_two (by omega))
       have HP2 := Lib.hid (show IntKind.i64.wrap ((2 : Int) ^ q) = (P : Int) by rw [hP, two_nat]; have := IntWalk.i64_in ((2 ^ q : Nat) : Int) (by rw [← hP]; omega); rw [two_nat] at this; exact this)
       have hn1 := i64_andNot_nat x1 P (by omega) (by omega)
       have hn2 := i64_andNot_nat x2 P (by omega) (by omega)
       have a1 : x1 ^^^ (x1 &&& P) = Tb.andn x1 (2 ^ q) := by rw [hP]; rfl
       have a2 : x2 ^^^ (x2 &&& P) = Tb.andn x2 (2 ^ q) := by rw [hP]; rfl
       rw [a1] at hn1
       rw [a2] at hn2
       clear hP a1 a2 ht
       simp only at Hwide Hcw
       generalize Tb.andn x1 (2 ^ q) = y1 at hn1 Hwide Hcw
       generalize Tb.andn x2 (2 ^ q) = y2 at hn2 Hwide Hcw
       go_wp2_with fail
       clear hbi
       refine wp_region_lexC (by kernel_rfl) (by kernel_rfl) (fun x => Below wr.heap.size wr x) ((Below.refl _ _).drew) (fun lexNE => ?_)
       have cT := wd_blk t0 t1 lTx
       obtain ⟨cT0, cT1⟩ := cT
       have r0 := fun W : Wd (fun x => Below wr.heap.size wr x) => (W.ok.cell (p := ad.add (k * 2)) (by rw [block_of_add]; omega)).trans e0
       have r1 := fun W : Wd (fun x => Below wr.heap.size wr x) => (W.ok.cell (p := nxt (ad.add (k * 2)) 1) (by rw [nxt_block]; omega)).trans e1
       have hp1 := HP1.out
       have hp2 := HP2.out
       (repeat (first | (refine lex_r fun K hK => ?_; go_big_quiet_op; refine hK _ ?_; clear hK K) | (refine lex_k fun K hK => ?_; go_simp; refine hK _ ?_; clear hK K)))
       (refine lex_e fun K hK => ?_; go_big_op)
       have HX2 := Lib.hid ((Blk.new wr 61 #[.int .i64 0, .int .i64 0]).drew)
       have HB2 := Lib.hid (((Below.refl wr.heap.size wr).alloc (Nat.le_refl _) (.cells #[.int .i64 0, .int .i64 0] 61)).drew)
       have lX2 := HX2.out.lt
       obtain ⟨g9, hg9⟩ : ∃ g9, g9 = wr.heap.size := ⟨_, rfl⟩
       generalize (wr.alloc (.cells #[.int .i64 0, .int .i64 0] 61)).drew = W2 at HX2 HB2 lX2 hK ⊢
       obtain ⟨x0, x1'⟩ := blk2c HX2.out
       have f0 := HX2.out.frozen 0
       have f1 := HX2.out.frozen 1
       refine hK _ _ (Cls.mk' HB2.out) ?_
       clear hK K
       clear hp1 hp2
       (repeat (first | (refine lex_r fun K hK => ?_; go_big_quiet_op; refine hK _ ?_; clear hK K) | (refine lex_k fun K hK => ?_; go_simp; refine hK _ ?_; clear hK K)))
       (refine lex_e fun K hK => ?_; go_big_op)
       have HX3 := Lib.hid (show Blk ((W2.setCell ⟨wr.heap.size, 0, none⟩ (.int .i64 y1)).setCell ⟨wr.heap.size, 1, none⟩ (.int .i64 y2)) wr.heap.size 61 #[.int .i64 y1, .int .i64 y2] by simpa using (HX2.out.set_ 0 (.int .i64 y1)).set_ 1 (.int .i64 y2))
       have HB3 := Lib.hid ((HB2.out.setCell (p := ⟨wr.heap.size, 0, none⟩) (Nat.le_refl _) (.int .i64 y1)).setCell (p := ⟨wr.heap.size, 1, none⟩) (Nat.le_refl _) (.int .i64 y2))
       generalize (W2.setCell ⟨wr.heap.size, 0, none⟩ (.int .i64 y1)).setCell ⟨wr.heap.size, 1, none⟩ (.int .i64 y2) = W3 at HX3 HB3 hK ⊢
       refine hK _ _ (Cls.mk' HB3.out) ?_
       clear hK K
       (repeat (first | (refine lex_r fun K hK => ?_; go_big_quiet_op; refine hK _ ?_; clear hK K) | (refine lex_k fun K hK => ?_; go_simp; refine hK _ ?_; clear hK K)))
       (refine lex_nil ?_)
       clear lexNE cT0 cT1 r0 r1 x0 x1' f0 f1 t0 t1 e0 e1
       have HR3 := Lib.hid (own_below HR.out HB3.out (Nat.le_refl _))
       have HT3 := Lib.hid (HTx.out.below HB3.out lTx)
       have Hw3 := Lib.hid (Hw.out.trans (HB3.out.mono zx))
       have hR9 : ∀ g, (Value.slice A6 L'.length c6).ownBlock = some g → g < wr.heap.size := fun g hg => (HR.out.lt g hg).2
       have HR9 := Lib.hid hR9
       rw [← hg9] at HX3 HR9 ⊢
       have hgT : w1.heap.size < g9 := by omega
       clear hg9 hR9 HX2 HB2 lX2 HR HTx
       go_wp2_with fail
       refine wp_region_lexC (by kernel_rfl) (by kernel_rfl) (fun x => Blk x w1.heap.size 31 #[.int .i64 m, .int .i64 b] ∧ Blk x g9 61 #[.int .i64 y1, .int .i64 y2]) (⟨HT3.out.drew, HX3.out.drew⟩) (fun lexNE => ?_)
       have d0 : ∀ W : Wd (fun x => Blk x w1.heap.size 31 #[.int .i64 m, .int .i64 b] ∧ Blk x g9 61 #[.int .i64 y1, .int .i64 y2]), W.val.cell? ⟨w1.heap.size, 0, none⟩ = some (.int .i64 m) := fun W => W.ok.1.cell 0
       have d1 : ∀ W : Wd (fun x => Blk x w1.heap.size 31 #[.int .i64 m, .int .i64 b] ∧ Blk x g9 61 #[.int .i64 y1, .int .i64 y2]), W.val.cell? ⟨w1.heap.size, 1, none⟩ = some (.int .i64 b) := fun W => W.ok.1.cell 1
       have d2 : ∀ W : Wd (fun x => Blk x w1.heap.size 31 #[.int .i64 m, .int .i64 b] ∧ Blk x g9 61 #[.int .i64 y1, .int .i64 y2]), W.val.cell? ⟨g9, 0, none⟩ = some (.int .i64 y1) := fun W => W.ok.2.cell 0
       have d3 : ∀ W : Wd (fun x => Blk x w1.heap.size 31 #[.int .i64 m, .int .i64 b] ∧ Blk x g9 61 #[.int .i64 y1, .int .i64 y2]), W.val.cell? ⟨g9, 1, none⟩ = some (.int .i64 y2) := fun W => W.ok.2.cell 1
       (repeat (first | (refine lex_r fun K hK => ?_; go_big_quiet_op; refine hK _ ?_; clear hK K) | (refine lex_k fun K hK => ?_; go_simp; refine hK _ ?_; clear hK K)))
       (refine lex_e fun K hK => ?_; go_big_op)
       refine hK _ _ (Cls.mk' ⟨(HT3.out.alloc _).drew, (HX3.out.alloc _).drew⟩) ?_
       clear hK K
       (repeat (first | (refine lex_r fun K hK => ?_; go_big_quiet_op; refine hK _ ?_; clear hK K) | (refine lex_k fun K hK => ?_; go_simp; refine hK _ ?_; clear hK K)))
       refine lex_e fun K hK => ?_
       refine wp_append_keep _ _ _ 49 (by rfl) wo.heap.size 61 i0 (.agg #[.int .i64 0, .int .i64 0]) 2 16 Try.underlying49 hi hz0 hz1 hz2 rfl (by decide) _ _ _ (by rfl) (own_drew (HR3.out.alloc _)) _ _ _ _ _ (by rfl) (reads_new (w := W3) 61 #[.int .i64 y1, .int .i64 y2] 1 2 rfl).drew (by decide) (by intro u hu; simp at hu; rcases hu with rfl | rfl <;> rfl) (by unfold maxLen; omega) (by omega) (by have := Hw3.out.size; (try simp) <;> omega) ?_
       intro v8 w8 hown8 hgrow8 hblk8 hkeep8
       go_simp
       have hcat : cbs (castL L') ++ (#[.int .i64 (y1 : Nat), .int .i64 (y2 : Nat)] : Array Value).toList = cbs (castL (L' ++ [(y1, y2)])) := by rw [castL_app, show cbs (castL L' ++ castL [(y1, y2)]) = cbs (castL L') ++ cbs (castL [(y1, y2)]) from recs_app _ _]; rfl
       have hln : L'.length + 1 = (L' ++ [(y1, y2)]).length := by simp
       rw [hcat, hln] at hown8
       obtain ⟨A8, c8, rfl, _, _, _⟩ := own_form hown8
       have HO8 := Lib.hid hown8
       have HK8 := Lib.hid hkeep8
       have HT8 := Lib.hid ((HT3.out.alloc (.cells #[.int .i64 y1, .int .i64 y2] 61)).drew.grown hgrow8 (fun h => by have := (HR3.out.lt _ h.symm).1; omega))
       have HX8 := Lib.hid ((HX3.out.alloc (.cells #[.int .i64 y1, .int .i64 y2] 61)).drew.grown hgrow8 (fun h => by have := HR9.out _ h.symm; omega))
       have Hw8 := Lib.hid ((Hw3.out.alloc Hw3.out.size (.cells #[.int .i64 y1, .int .i64 y2] 61)).drew.trans (below_of_grown hgrow8 (by have := Hw3.out.size; (try simp) <;> omega) (fun g hg => (HR3.out.lt g hg).1)))
       clear hown8 hkeep8 hgrow8 hblk8 hcat hln
       refine hK _ _ (Cls.mk' ⟨HT8.out, HX8.out⟩) ?_
       clear hK K
       (repeat (first | (refine lex_r fun K hK => ?_; go_big_quiet_op; refine hK _ ?_; clear hK K) | (refine lex_k fun K hK => ?_; go_simp; refine hK _ ?_; clear hK K)))
       (refine lex_e fun K hK => ?_; go_big_op)
       rw [show L'.length + 1 = (L' ++ [(y1, y2)]).length by simp]
       refine (i_CoverTable m (Reads.of_own HO8.out) (Nat.le_refl _) (by simp; omega)).mono ?_
       rw [Hcw.out]
       rintro e w9 ⟨rfl, hb9⟩
       have HK9 := Lib.hid (own_below HK8.out hb9 (Nat.le_refl _))
       have Hw9 := Lib.hid (Hw8.out.trans (hb9.mono Hw8.out.size))
       refine hK _ _ (Cls.mk' ⟨HT8.out.below hb9 HT8.out.lt, HX8.out.below hb9 HX8.out.lt⟩) ?_
       clear hK K hb9
       generalize Tb.ctab (2 ^ m.toNat) (L' ++ [(y1, y2)]) = T2 at Hwide
       have q2 : ((T2 : Int) == (b : Int)) = false := by rw [castEq]; exact decide_eq_false Hwide.out
       (repeat (first | (refine lex_r fun K hK => ?_; go_big_quiet_op; refine hK _ ?_; clear hK K) | (refine lex_k fun K hK => ?_; go_simp; refine hK _ ?_; clear hK K)))
       (refine lex_nil ?_)
       clear lexNE d0 d1 d2 d3 q2
       go_wp2_with fail
       go_roundw
       case rel => exact ⟨q + 1, by omega, by go_num, HK9.out, Hw9.out⟩
       case measure => simp [intOf]; omega
     ·have g6 : m ≤ (q : Int) := by omega
      go_wp2_with fail
      go_roundw
      case rel => exact ⟨k + 1, by omega, by go_num, own_below HO.out Hw.out (Nat.le_refl _), HTx.out, Hb.out.trans (Hw.out.mono zr)⟩
      case measure => simp [intOf]; omega
   ·have hkl : (L.length : Int) ≤ (k : Int) := by omega
    obtain ⟨t0, t1⟩ := blk2c HT.out
    go_wp2_with fail
    refine wp_region_lexC (by kernel_rfl) (by kernel_rfl) (fun x => Below wr.heap.size wr x) ((Below.refl _ _).drew) (fun lexNE => ?_)
    have cT := wd_blk t0 t1 lT
    obtain ⟨cT0, cT1⟩ := cT
    (repeat (first | (refine lex_r fun K hK => ?_; go_big_quiet_op; refine hK _ ?_; clear hK K) | (refine lex_k fun K hK => ?_; go_simp; refine hK _ ?_; clear hK K)))
    (refine lex_e fun K hK => ?_; go_big_op)
    refine (i_CoverLiterals m (Reads.of_own HO.out).drew (by simp) (by omega)).mono ?_
    rw [cLit_prs Hm.out Hsub.out]
    rintro e w6 ⟨rfl, hb6⟩
    have H6 := Lib.hid ((Below.refl wr.heap.size wr).drew.trans hb6)
    refine hK _ _ (Cls.mk' H6.out) ?_
    clear hK K hb6
    (repeat (first | (refine lex_r fun K hK => ?_; go_big_quiet_op; refine hK _ ?_; clear hK K) | (refine lex_k fun K hK => ?_; go_simp; refine hK _ ?_; clear hK K)))
    (refine lex_e fun K hK => ?_; go_big_op)
    refine (i_PrimeCubes _ _ _).mono ?_
    rw [He2.out]
    rintro e w7 ⟨A7, c7, rfl, hown7, hb7⟩
    rw [castL_len] at hown7 ⊢
    have H7 := Lib.hid (H6.out.trans (hb7.mono H6.out.size))
    refine hK _ _ (Cls.mk' H7.out) ?_
    clear hK K hb7
    (repeat (first | (refine lex_r fun K hK => ?_; go_big_quiet_op; refine hK _ ?_; clear hK K) | (refine lex_k fun K hK => ?_; go_simp; refine hK _ ?_; clear hK K)))
    (refine lex_e fun K hK => ?_; go_big_op)
    refine (i_CoverLiterals m (Reads.of_own hown7) (Nat.le_refl _) (by omega)).mono ?_
    rw [cLit_prs Hm.out (List.Sublist.refl _)]
    rintro e w8 ⟨rfl, hb8⟩
    have H8 := Lib.hid (H7.out.trans (hb8.mono H7.out.size))
    refine hK _ _ (Cls.mk' H8.out) ?_
    clear hK K hb8 hown7
    have hle : ((Tb.lits m.toNat L : Nat) : Int) ≤ ((Tb.lits m.toNat (Tb.prs m.toNat b) : Nat) : Int) := by have := Hlit.out; omega
    (repeat (first | (refine lex_r fun K hK => ?_; go_big_quiet_op; refine hK _ ?_; clear hK K) | (refine lex_k fun K hK => ?_; go_simp; refine hK _ ?_; clear hK K)))
    (refine lex_nil ?_)
    clear lexNE cT0 cT1 t0 t1
    go_wp2_with fail
    go_ret
    exact ⟨by simp, Hb.out.trans (H8.out.mono Hb.out.size)⟩
 ·have hb2 : 1048576 < n0 := by omega
  go_enter Try.func11, Try.ntmps11
  go_wp2_with (first | (go_at_call 12; go_in))
  go_ret
  exact ⟨rfl, Below.refl _ _⟩
set_option maxRecDepth 100000 in
theorem lifted_FnCoverNeedsAll (os : Os) (started : os.Started) (H : Type) (enc : TypeId × Value → H) :
  ReturnsInHanded {} Try.checked os 11 .any (Rows.fnCoverNeedsAllSpec.pre6 enc Try.prog Try.f11 Rows.fnCoverNeedsAllRow.domain false) (Rows.fnCoverNeedsAllSpec.post enc Try.prog Try.f11 false true false false) := by
 refine lift (F := 11) (fn := Try.f11) (s := Rows.fnCoverNeedsAllSpec) (conds := Rows.fnCoverNeedsAllRow.domain) (by kernel_rfl) Try.func11 (by kernel_rfl) rfl (by kernel_rfl) ?_ ?_ os started H enc
  (ChangeSpec.witness6 (enc := enc) (C := Try.checked) false ⟨#[], #[.slice none 0 0], []⟩ 8 (by kernel_rfl) (by kernel_rfl) (by kernel_rfl) (by kernel_rfl))
 ·intro H ds hl
  rw [Try.params11] at hl
  match ds, hl with
  | [d0], _ => exact ⟨rfl, rfl, rfl⟩
 ·intro W base args H enc ds p hval hA hlt
  rw [Try.params11] at hA hval
  obtain ⟨v0, vs0, e0, es0, p0, q0, hargs, rfl, rfl, h0, r0⟩ := trodAll_cons hA
  obtain ⟨rfl, rfl, rfl⟩ := trodAll_nil r0
  obtain rfl : args = #[v0] := by cases args; simp_all
  obtain ⟨A0, n0, c0, l, rfl, w0⟩ := op_bytes Try.underlying22 Try.underlying5 (by kernel_rfl) (hval 0 22 v0 rfl rfl) h0 (fun x hx => hlt x (by simp [hx]))
  exact walk_FnCoverNeedsAll A0 n0 c0 l W w0
theorem facts_FnCoverNeedsAll : joinedFacts Try.pinned.checked.prog 11 Try.f11 Rows.fnCoverNeedsAllSpec Rows.fnCoverNeedsAllRow = true :=
 facts_of (P := Try.prog) mayE liftE makeE rfl rfl (by kernel_rfl) (by kernel_rfl) (by kernel_rfl) (by kernel_rfl) (by kernel_rfl) (by kernel_rfl) (by kernel_rfl) (by kernel_rfl) (by kernel_rfl) (by kernel_rfl) (by kernel_rfl) (by kernel_rfl) (by kernel_rfl) rfl rfl (by kernel_rfl) (by kernel_rfl) (by kernel_rfl) (by kernel_rfl) (by kernel_rfl) (by kernel_rfl) (by kernel_rfl) (by kernel_rfl) (by kernel_rfl) (by kernel_rfl) (by kernel_rfl) rfl rfl (by kernel_rfl) (by kernel_rfl) (by kernel_rfl)
theorem over_FnCoverNeedsAll : Rows.fnCoverNeedsAllRow.holds Try.pinned (OpenSpec.ofChange Rows.fnCoverNeedsAllSpec) :=
 OpenClaim.holds_of_wide 11 Try.f11 rfl rfl rfl rfl rfl rfl rfl ⟨rfl, rfl, rfl, rfl, rfl⟩ rfl rfl rfl rfl rfl (by kernel_rfl) Try.func11 facts_FnCoverNeedsAll
  (of_decide_eq_true (by kernel_rfl)) (by unfold Func.isWrapper; first | (rw [if_pos (by decide +kernel)]; kernel_rfl) | (rw [if_neg (by decide +kernel)]; exact ⟨rfl, rfl⟩))
  (fun os started H enc _ => lifted_FnCoverNeedsAll os started H enc)
theorem FnCoverNeedsAll_holds : Rows.FnCoverNeedsAllSaid := over_FnCoverNeedsAll
end Go.Proofs.Ytbkgjgpoohlieaa
