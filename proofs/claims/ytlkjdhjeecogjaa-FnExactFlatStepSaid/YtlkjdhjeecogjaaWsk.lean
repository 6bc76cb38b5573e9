/- Contracts: does a state belong to a flat module: the program's function. -/
import Derived.Test.YtlkjdhjeecogjaaSto
import Derived.Test.YtlkjdhjeecogjaaEvA
import Derived.Test.YtlkjdhjeecogjaaWordStateD
import Derived.Test.YtlkjdhjeecogjaaEvI
import Derived.Outline
namespace Go.Proofs.Ytlkjdhjeecogjaa
open Go.RowKit

def memD (m : TModule) (q : Nat) : Int := (m.2.2.2.getD q (0, 0, 0, 0)).2.1
/-- a value, a word of a state is in its range -/
def wvB (m : TModule) (st : TWordState) (i : Nat) : Bool := if stoB m i then inR (st.1.getD i 0) 0 (mskN (widAt m.1 (i : Int)) : Int) else decide (st.1.getD i 0 = 0)
def wwB (m : TModule) (st : TWordState) (i : Nat) : Bool := inR (st.2.getD i 0) 0 (mskN (widAt m.1 (memD m (i / 4))) : Int)
/-- a state of a flat module -/
def wsB (m : TModule) (st : TWordState) : Bool :=
 flatB m && (decide (st.1.length = m.1.length) && (decide (st.2.length = 4 * m.2.2.2.length) && ((List.range m.1.length).all (wvB m st) && (List.range st.2.length).all (wwB m st))))
theorem flat_ok {m : TModule} (h : flatB m = true) : okE m = true ∧ ordB m = true := by
 unfold flatB at h
 simp only [Bool.and_eq_true] at h
 exact ⟨ordB_ok h.1, h.1⟩
theorem flat_wid {m : TModule} (h : flatB m = true) {i : Nat} {x : TSignal} (hi : m.1[i]? = some x) : 1 ≤ x.2.1 ∧ x.2.1 ≤ 4 := by
 have h1 := (okE_sig (flat_ok h).1 hi).2.1
 unfold flatB at h
 simp only [Bool.and_eq_true] at h
 have h2 := List.all_eq_true.1 h.2.1 _ (List.mem_of_getElem? hi)
 unfold wid1 at h2
 simp at h2
 omega
theorem flat_sum {m : TModule} (h : flatB m = true) : m.2.1.all noP1 = true ∧ m.2.2.2.all (memW m.1) = true := by
 unfold flatB at h
 simp only [Bool.and_eq_true] at h
 exact ⟨h.2.2.1, h.2.2.2.1⟩
theorem wst_open {w : World} {S : Nat → Prop} {v : Value} {st : TWordState} (h : RWordState w S v st) : ∃ A0 c0 A1 c1, v = .agg #[.slice A0 st.1.length c0, .slice A1 st.2.length c1] ∧ Rep w S (.slice A0 st.1.length c0) (fIntS st.1) ∧ Rep w S (.slice A1 st.2.length c1) (fIntS st.2) ∧ st.1.length ≤ maxLen ∧ st.2.length ≤ maxLen := by
 obtain ⟨v0, v1, rfl, h0, h1⟩ := h
 obtain ⟨A0, c0, rfl, r0, m0⟩ := sl_form h0 (List.length_map _)
 obtain ⟨A1, c1, rfl, r1, m1⟩ := sl_form h1 (List.length_map _)
 exact ⟨A0, c0, A1, c1, rfl, r0, r1, m0, m1⟩
theorem mskN_ge (k : Int) : (0 : Int) ≤ (mskN k : Int) := Int.natCast_nonneg _

set_option maxRecDepth 100000 in
set_option maxHeartbeats 16000000 in
theorem i_WordStateOk {w : World} {S S2 : Nat → Prop} {v v2 : Value} {m : TModule} {st : TWordState} (hz : sModule m ≤ 1048576) (h : RModule w S v m) (hS : ∀ b, S b → b < w.heap.size) (h2 : RWordState w S2 v2 st) (hS2 : ∀ b, S2 b → b < w.heap.size) :
  Calls Try.prog 63 #[v, v2] w fun e w' => e = .returned (.bool (wsB m st)) ∧ Below w.heap.size w w' := by
 obtain ⟨A0, c0, A1, c1, A2, c2, A3, c3, rfl, hSg, hAs, -, hMe, hm0, hm1, hm2, hm3⟩ := mod_open h
 obtain ⟨ns, hns⟩ : ∃ ns, m.1.length = ns := ⟨_, rfl⟩
 obtain ⟨na, hna⟩ : ∃ na, m.2.1.length = na := ⟨_, rfl⟩
 obtain ⟨ni, hni⟩ : ∃ ni, m.2.2.1.length = ni := ⟨_, rfl⟩
 obtain ⟨nm, hnm⟩ : ∃ nm, m.2.2.2.length = nm := ⟨_, rfl⟩
 rw [hns, hna, hni, hnm] at h ⊢
 rw [hns] at hSg hm0
 rw [hna] at hAs hm1
 rw [hni] at hm2
 rw [hnm] at hMe hm3
 unfold maxLen at hm0 hm1 hm2 hm3
 have Hn := Lib.hid (And.intro hns (And.intro hna (And.intro hni hnm)))
 have H := Lib.hid h
 have HSg := Lib.hid hSg
 have HAs := Lib.hid hAs
 have HMe := Lib.hid hMe
 have HB0 := Lib.hid ((Below.refl w.heap.size w).alloc (Nat.le_refl _) (.cells #[.slice A0 ns c0, .slice A1 na c1, .slice A2 ni c2, .slice A3 nm c3] 41))
 have HX0 := Lib.hid (Blk.new w 41 #[.slice A0 ns c0, .slice A1 na c1, .slice A2 ni c2, .slice A3 nm c3])
 clear hns hna hnm hni h hSg hAs hMe
 obtain ⟨V0, d0, V1, d1, rfl, hV0, hV1, hvm0, hvm1⟩ := wst_open h2
 obtain ⟨nv, hnv⟩ : ∃ nv, st.1.length = nv := ⟨_, rfl⟩
 obtain ⟨nw, hnw⟩ : ∃ nw, st.2.length = nw := ⟨_, rfl⟩
 rw [hnv] at hV0 hvm0 ⊢
 rw [hnw] at hV1 hvm1 ⊢
 unfold maxLen at hvm0 hvm1
 have HNV := Lib.hid (And.intro hnv hnw)
 have HV0 := Lib.hid hV0
 have HV1 := Lib.hid hV1
 clear hnv hnw hV0 hV1 h2
 obtain ⟨W0, hW0⟩ : ∃ W0, W0 = (w.alloc (.cells #[.slice A0 ns c0, .slice A1 na c1, .slice A2 ni c2, .slice A3 nm c3] 41)).alloc (.cells #[.slice V0 nv d0, .slice V1 nw d1] 33) := ⟨_, rfl⟩
 have hz0 : W0.heap.size = w.heap.size + 1 + 1 := by rw [hW0]; simp
 have HBW0 := Lib.hid (show Below w.heap.size w W0 by rw [hW0]; exact HB0.out.alloc (by simp) _)
 have HXM0 := Lib.hid (show Blk W0 w.heap.size 41 #[.slice A0 ns c0, .slice A1 na c1, .slice A2 ni c2, .slice A3 nm c3] by rw [hW0]; exact HX0.out.alloc _)
 have HXS0 := Lib.hid (show Blk W0 (w.heap.size + 1) 33 #[.slice V0 nv d0, .slice V1 nw d1] by rw [hW0]; exact blk_new_at (by simp))
 have HW0 := Lib.hid hW0
 clear hW0
 go_enter Try.func63, Try.ntmps63
 go_wp2_with fail
 rw [← HW0.out]
 refine (i_FlatOk hz (RModule.under H.out hS HBW0.out) (fun b hb => by have := hS b hb; omega)).mono ?_
 rintro e w1 ⟨rfl, hb1⟩
 have HB1 := Lib.hid (HBW0.out.trans (hb1.mono (by omega)))
 have HXM1 := Lib.hid (HXM0.out.below hb1 HXM0.out.lt)
 have HXS1 := Lib.hid (HXS0.out.below hb1 HXS0.out.lt)
 have z1 := hb1.size
 clear hb1
 cases hfl : flatB m with
 | false =>
  have Hfl := Lib.hid hfl
  clear hfl
  go_wp2_with fail
  go_ret
  exact ⟨ret_bool (by unfold wsB; rw [Hfl.out]; rfl), HB1.out⟩
 | true =>
  have HF := Lib.hid hfl
  have HOK := Lib.hid (flat_ok hfl).1
  obtain ⟨hn30, hna30, hnm2⟩ := okE_na HOK.out
  rw [Hn.out.1] at hn30
  rw [Hn.out.2.2.2] at hnm2
  obtain ⟨y0, y1, y2, y3⟩ := blkS4 HXM1.out
  obtain ⟨z0, z1'⟩ := blkS2 HXS1.out
  clear hfl
  by_cases hv : nv = ns
  rotate_left
  ·have hv' : ((nv : Int) != (ns : Int)) = true := by simp; omega
   have Hv := Lib.hid hv
   clear hv
   go_wp2_with fail
   go_ret
   exact ⟨ret_bool (by unfold wsB; rw [HF.out, HNV.out.1, Hn.out.1, decide_eq_false Hv.out]; rfl), HB1.out⟩
  obtain rfl := hv.symm
  by_cases hw : nw = 4 * nm
  rotate_left
  ·have hw' : ((nw : Int) != 4 * (nm : Int)) = true := by simp; omega
   have Hw := Lib.hid hw
   clear hw
   go_wp2_with fail
   go_ret
   exact ⟨ret_bool (by unfold wsB; rw [HF.out, HNV.out.1, Hn.out.1, HNV.out.2, Hn.out.2.2.2, decide_eq_false Hw.out]; simp), HB1.out⟩
  subst hw
  have hw' : ((4 * nm : Nat) : Int) = 4 * (nm : Int) := by push_cast; rfl
  go_wp2_with fail
  refine (i_isStored HOK.out (RModule.under H.out hS HB1.out) (fun b hb => by have := hS b hb; omega)).mono ?_
  rintro e w2 ⟨gs, rfl, hos, hb2⟩
  rw [Hn.out.1] at hos ⊢
  have HOs := Lib.hid hos
  have HBw := Lib.hid (HB1.out.trans (hb2.mono (by omega)))
  have HXM2 := Lib.hid (HXM1.out.below hb2 HXM1.out.lt)
  have HXS2 := Lib.hid (HXS1.out.below hb2 HXS1.out.lt)
  have z2 := hb2.size
  clear hos hb2 y0 y1 y2 y3 z0 z1'
  obtain ⟨z0, z1'⟩ := blkS2 HXS2.out
  go_wp2_with fail
  clear z0 z1'
  go_loopw [6, 7, 37] (fun _ _ iv wr => ∃ k : Nat, k ≤ ns ∧ iv = .int .i64 k ∧ Hid ((List.range k).all (wvB m st) = true) ∧ Below w2.heap.size w2 wr) (fun _ _ iv _ => ns - (intOf iv).toNat)
  case atStart => exact ⟨0, Nat.zero_le _, rfl, Lib.hid rfl, Below.refl _ _⟩
  case round =>
   obtain ⟨k, hk, rfl, Hal, hb⟩ := hrel
   have Hb := Lib.hid hb
   have hsz := hb.size
   have Hbw := Lib.hid (HBw.out.trans (hb.mono (by omega)))
   have HXm1 := Lib.hid (HXM2.out.below hb (by omega))
   have HXs1 := Lib.hid (HXS2.out.below hb (by omega))
   have HOr := Lib.hid (own_below HOs.out hb (Nat.le_refl _))
   obtain ⟨y0, y1, y2, y3⟩ := blkS4 HXm1.out
   obtain ⟨z0, z1⟩ := blkS2 HXs1.out
   have g1 : (0 : Int) ≤ (k : Int) := by omega
   clear hb
   by_cases hlt : k < ns
   ·obtain ⟨adv, x, rfl, habv, hxv, ev⟩ := fIntS_row (HV0.out.under hS2 Hbw.out) hlt
    obtain ⟨ads, x0, x1, x2, rfl, habs, hxs, e0, e1, e2⟩ := fSignalS_row (HSg.out.under hS Hbw.out) hlt
    obtain ⟨sb, hsb, tb⟩ := own_bool_at HOr.out hlt
    rw [stoL_get (by have := Hn.out.1; omega)] at hsb
    injection hsb with hsb
    have hw4 := flat_wid HF.out hxs
    simp only at hw4
    have g2 : (k : Int) < (ns : Int) := by omega
    have Hwv := Lib.hid (show wvB m st k = if sb then inR x 0 (mskN x1 : Int) else decide (x = 0) by unfold wvB; rw [hsb, widAt_get hxs]; simp [List.getD, hxv])
    clear hxv hxs hsb
    cases sb with
    | true =>
     cases hq : inR x 0 (mskN x1 : Int) with
     | false =>
      have Hq := Lib.hid hq
      clear hq
      go_wp2_with fail
      refine (i_widthMask x1 (by omega) _).mono ?_
      rintro e w9 ⟨rfl, rfl⟩
      go_wp2_with fail
      refine (i_inRange x 0 (mskN x1 : Int) _).mono ?_
      rintro e w9 ⟨rfl, rfl⟩
      rw [Hq.out]
      go_wp2_with fail
      go_ret
      exact ⟨ret_bool (by unfold wsB; rw [HF.out, HNV.out.1, Hn.out.1, range_all (n := ns) (k := k) hlt (by rw [Hwv.out]; simp [Hq.out])]; simp), Hbw.out⟩
     | true =>
      have Hq := Lib.hid hq
      clear hq
      go_wp2_with fail
      refine (i_widthMask x1 (by omega) _).mono ?_
      rintro e w9 ⟨rfl, rfl⟩
      go_wp2_with fail
      refine (i_inRange x 0 (mskN x1 : Int) _).mono ?_
      rintro e w9 ⟨rfl, rfl⟩
      rw [Hq.out]
      go_wp2_with fail
      go_roundw
      case rel => exact ⟨k + 1, by omega, by go_num, Lib.hid (by rw [range_succ_all, Hal.out, Hwv.out]; simp [Hq.out]), Hb.out⟩
      case measure => simp [intOf]; omega
    | false =>
     by_cases h0 : x = 0
     ·subst h0
      have Hq := Lib.hid (show inR 0 0 (mskN x1 : Int) = true from inR_iff.2 ⟨Int.le_refl _, mskN_ge _⟩)
      go_wp2_with fail
      refine (i_widthMask x1 (by omega) _).mono ?_
      rintro e w9 ⟨rfl, rfl⟩
      go_wp2_with fail
      refine (i_inRange 0 0 (mskN x1 : Int) _).mono ?_
      rintro e w9 ⟨rfl, rfl⟩
      rw [Hq.out]
      go_wp2_with fail
      go_roundw
      case rel => exact ⟨k + 1, by omega, by go_num, Lib.hid (by rw [range_succ_all, Hal.out, Hwv.out]; simp), Hb.out⟩
      case measure => simp [intOf]; omega
     ·have q0 : ((x : Int) != 0) = true := by simpa using h0
      have H0 := Lib.hid h0
      clear h0
      go_wp2_with fail
      go_ret
      exact ⟨ret_bool (by unfold wsB; rw [HF.out, HNV.out.1, Hn.out.1, range_all (n := ns) (k := k) hlt (by rw [Hwv.out]; simp [H0.out])]; simp), Hbw.out⟩
   ·have hge : (ns : Int) ≤ (k : Int) := by omega
    have hkn : k = ns := by omega
    have HA1 := Lib.hid (show (List.range ns).all (wvB m st) = true by rw [← hkn]; exact Hal.out)
    clear hkn
    go_wp2_with fail
    clear y0 y1 y2 y3 z0 z1 hge
    obtain ⟨wa, hwa⟩ : ∃ wa, wa = wr := ⟨_, rfl⟩
    subst hwa
    go_loopw [8, 9, 67] (fun _ _ iv wr => ∃ k : Nat, k ≤ 4 * nm ∧ iv = .int .i64 k ∧ Hid ((List.range k).all (wwB m st) = true) ∧ Below w2.heap.size w2 wr) (fun _ _ iv _ => 4 * nm - (intOf iv).toNat)
    case atStart => exact ⟨0, Nat.zero_le _, rfl, Lib.hid rfl, Hb.out⟩
    case round =>
     clear Hal Hb hsz Hbw HXm1 HXs1 HOr g1
     obtain ⟨k, hk, rfl, Hal, hb⟩ := hrel
     have Hb := Lib.hid hb
     have hsz := hb.size
     have Hbw := Lib.hid (HBw.out.trans (hb.mono (by omega)))
     have HXm1 := Lib.hid (HXM2.out.below hb (by omega))
     have HXs1 := Lib.hid (HXS2.out.below hb (by omega))
     have HOr := Lib.hid (own_below HOs.out hb (Nat.le_refl _))
     obtain ⟨y0, y1, y2, y3⟩ := blkS4 HXm1.out
     obtain ⟨z0, z1⟩ := blkS2 HXs1.out
     have g1 : (0 : Int) ≤ (k : Int) := by omega
     clear hb
     by_cases hlt : k < 4 * nm
     ·have g2 : (k : Int) < 4 * (nm : Int) := by omega
      obtain ⟨adv, x, rfl, habv, hxv, ev⟩ := fIntS_row (HV1.out.under hS2 Hbw.out) hlt
      have hqm : k / 4 < nm := by omega
      obtain ⟨ad2, m0, m1, m2, m3, rfl, hab2, hx, t0, t1, t2, t3⟩ := fMemS_row (HMe.out.under hS Hbw.out) hqm
      obtain ⟨p, q, r, s, rfl, rfl, rfl, rfl, hp, hq, hr, hs⟩ := okE_mem HOK.out hx
      rw [Hn.out.1] at hq
      obtain ⟨ads, x0, x1, x2, rfl, habs, hxs, e0, e1, e2⟩ := fSignalS_row (HSg.out.under hS Hbw.out) hq
      have hw4 := flat_wid HF.out hxs
      simp only at hw4
      have Hww := Lib.hid (show wwB m st k = inR x 0 (mskN x1 : Int) by
       unfold wwB memD
       rw [show m.2.2.2.getD (k / 4) (0, 0, 0, 0) = ((p : Int), (q : Int), (r : Int), (s : Int)) by simp [List.getD, hx], widAt_get hxs]
       simp [List.getD, hxv])
      have g3 : (0 : Int) ≤ (q : Int) := by omega
      have g4 : (q : Int) < (ns : Int) := by omega
      have g5 : (k : Int).tdiv 4 = ((k / 4 : Nat) : Int) := rfl
      have g6 : (0 : Int) ≤ ((k / 4 : Nat) : Int) := by omega
      have g7 : ((k / 4 : Nat) : Int) < (nm : Int) := by omega
      have hbm := hS _ hab2
      have hbs := hS _ habs
      clear hxv hx hxs hp hr hs
      obtain ⟨kq, hkq⟩ : ∃ kq, kq = k / 4 := ⟨_, rfl⟩
      rw [← hkq] at g5 g6 g7 t0 t1 t2 t3
      clear hkq hqm
      go_wp2_with fail
      refine wp_region_lexC (by kernel_rfl) (by kernel_rfl) (fun x => Below wr.heap.size wr x) ((Below.refl _ _).drew) (fun lexNE => ?_)
      obtain ⟨cm0, cm1, cm2, cm3⟩ := bwS4 HXm1.out HXm1.out.lt
      have cd := wcell (B := wr.heap.size) t1 (by rw [nxt_block]; omega)
      have cw := wcell (B := wr.heap.size) e1 (by rw [nxt_block]; omega)
      (repeat (first | (refine lex_r fun K hK => ?_; go_big_quiet_op; refine hK _ ?_; clear hK K) | (refine lex_k fun K hK => ?_; go_simp; refine hK _ ?_; clear hK K)))
      (refine lex_e fun K hK => ?_; go_big_op)
      refine (i_widthMask x1 (by omega) _).mono ?_
      rintro e w9 ⟨rfl, rfl⟩
      refine hK _ _ (Cls.mk' ((Below.refl _ _).drew)) ?_
      clear hK K
      (repeat (first | (refine lex_r fun K hK => ?_; go_big_quiet_op; refine hK _ ?_; clear hK K) | (refine lex_k fun K hK => ?_; go_simp; refine hK _ ?_; clear hK K)))
      (refine lex_e fun K hK => ?_; go_big_op)
      refine (i_inRange x 0 (mskN x1 : Int) _).mono ?_
      rintro e w9 ⟨rfl, rfl⟩
      refine hK _ _ (Cls.mk' ((Below.refl _ _).drew)) ?_
      clear hK K
      cases hqq : inR x 0 (mskN x1 : Int) with
      | false =>
       have Hq := Lib.hid hqq
       clear hqq
       (repeat (first | (refine lex_r fun K hK => ?_; go_big_quiet_op; refine hK _ ?_; clear hK K) | (refine lex_k fun K hK => ?_; go_simp; refine hK _ ?_; clear hK K)))
       (refine lex_nil ?_)
       clear lexNE cm0 cm1 cm2 cm3 cd cw
       go_wp2_with fail
       go_ret
       exact ⟨ret_bool (by unfold wsB; rw [HF.out, HNV.out.1, HNV.out.2, Hn.out.1, Hn.out.2.2.2, HA1.out, range_all (n := 4 * nm) (k := k) hlt (by rw [Hww.out, Hq.out])]; simp), Hbw.out.drew⟩
      | true =>
       have Hq := Lib.hid hqq
       clear hqq
       (repeat (first | (refine lex_r fun K hK => ?_; go_big_quiet_op; refine hK _ ?_; clear hK K) | (refine lex_k fun K hK => ?_; go_simp; refine hK _ ?_; clear hK K)))
       (refine lex_nil ?_)
       clear lexNE cm0 cm1 cm2 cm3 cd cw
       go_wp2_with fail
       go_roundw
       case rel => exact ⟨k + 1, by omega, by go_num, Lib.hid (by rw [range_succ_all, Hal.out, Hww.out, Hq.out]; rfl), Hb.out.drew⟩
       case measure => simp [intOf]; omega
     ·have hge : 4 * (nm : Int) ≤ (k : Int) := by omega
      have hkn : k = 4 * nm := by omega
      have HA2 := Lib.hid (show (List.range (4 * nm)).all (wwB m st) = true by rw [← hkn]; exact Hal.out)
      clear hkn
      go_wp2_with fail
      go_ret
      exact ⟨ret_bool (by unfold wsB; rw [HF.out, HNV.out.1, HNV.out.2, Hn.out.1, Hn.out.2.2.2, HA1.out, HA2.out]; simp), Hbw.out⟩
end Go.Proofs.Ytlkjdhjeecogjaa
