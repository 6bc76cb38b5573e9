/- Contracts: minimal covers: the program's and the reference's functions. -/
import Derived.Test.YtbkgjgpoohlieaaPrj
import Derived.Outline
import Derived.Deep.DeepCutAuto
namespace Go.Proofs.Ytbkgjgpoohlieaa
open Go.RowKit

/-- a minimal cover -/
def mCubes (n b : Int) : List (Int × Int) := if tOk n b then castL (Tb.minimal n.toNat b.toNat) else []
theorem mCubes_len (n b : Int) : (mCubes n b).length ≤ 81 := by
 unfold mCubes
 split
 ·rename_i h
  rw [castL_len]
  have := inR_iff.1 (tOk_nat h).choose_spec.2.2.2
  exact Nat.le_trans (Tb.minC_len _ _) (Tb.prs_len (by omega))
 ·simp
theorem cv_prs {m : Int} {b : Nat} {L : List Tb.Cb} (hm : inR m 0 4 = true) (h : L.Sublist (Tb.prs m.toNat b)) : cvOk m (castL L) = true := by
 have hm2 := inR_iff.1 hm
 have hl : L.length ≤ 81 := Nat.le_trans h.length_le (Tb.prs_len (by omega))
 simp only [cvOk, hm, castL_len, hl, decide_true, Bool.true_and, List.all_eq_true]
 intro x hx
 simp only [castL, List.mem_map] at hx
 obtain ⟨y, hy, rfl⟩ := hx
 obtain ⟨h1, h2, _⟩ := Tb.mem_prs.1 (h.subset hy)
 have h3 := (Tb.good_iff.1 h2).1
 have h4 := Tb.and_le_of_sub h3
 have hp := pow_nat m
 have e1 : inR (y.1 : Int) 0 (top m) = true := inR_iff.2 (by simp only [top]; omega)
 have e2 : inR (y.2 : Int) 0 (top m) = true := inR_iff.2 (by simp only [top]; omega)
 simp [cOkP, cOk, hm, e1, e2, h3]
theorem cTab_prs {m : Int} {b : Nat} {L : List Tb.Cb} (hm : inR m 0 4 = true) (h : L.Sublist (Tb.prs m.toNat b)) : cTab m (castL L) = (m, ((Tb.ctab (2 ^ m.toNat) L : Nat) : Int)) := by
 rw [cTab, if_pos (cv_prs hm h), castL_nat]
theorem castL_erase (L : List Tb.Cb) (k : Nat) : (castL L).eraseIdx k = castL (L.eraseIdx k) := by
 rw [List.eraseIdx_eq_take_drop_succ, List.eraseIdx_eq_take_drop_succ, castL_app]
 simp [castL, List.map_take, List.map_drop]
theorem sTab_prs {m : Int} (L : List Tb.Cb) (k : Nat) : sTab m (castL L) (k : Int) = ((Tb.ctab (2 ^ m.toNat) (L.eraseIdx k) : Nat) : Int) := by
 unfold sTab
 rw [selX, if_neg (by omega), Int.toNat_natCast, castL_erase, Tb.ctab]
 congr 1
 apply congrArg (fun f => Tb.tab f (2 ^ m.toNat))
 funext i
 rw [← anyHit_map, castL_nat]
theorem cbs_take (l : List (Int × Int)) : ∀ k, (cbs l).take (k * 2) = cbs (l.take k) := by
 induction l with
 | nil => intro k; simp [cbs, recs]
 | cons x l ih =>
  intro k
  cases k with
  | zero => simp [cbs, recs]
  | succ k =>
   have e : cbs (x :: l) = .int .i64 x.1 :: .int .i64 x.2 :: cbs l := rfl
   rw [e, show (k + 1) * 2 = k * 2 + 1 + 1 by omega, List.take_succ_cons, List.take_succ_cons, ih k]
   rfl
theorem cbs_drop (l : List (Int × Int)) : ∀ k, (cbs l).drop (k * 2) = cbs (l.drop k) := by
 induction l with
 | nil => intro k; simp [cbs, recs]
 | cons x l ih =>
  intro k
  cases k with
  | zero => simp
  | succ k =>
   have e : cbs (x :: l) = .int .i64 x.1 :: .int .i64 x.2 :: cbs l := rfl
   rw [e, show (k + 1) * 2 = k * 2 + 1 + 1 by omega, List.drop_succ_cons, List.drop_succ_cons, ih k]
   rfl
theorem Reads.front {w : World} {B size n : Nat} {A : Option Addr} {xs : List Value} (h : Reads w B size A n xs) {k : Nat} (hk : k ≤ n) : Reads w B size A k (xs.take (k * size)) := by
 refine ⟨by rw [List.length_take, h.1]; exact Nat.min_eq_left (Nat.mul_le_mul_right _ hk), fun hn => ?_⟩
 obtain ⟨ad, rfl, hb, hc⟩ := h.2 (by omega)
 refine ⟨ad, rfl, hb, fun j u hu => hc j u ?_⟩
 rw [List.getElem?_take] at hu
 split at hu
 ·exact hu
 ·cases hu

set_option maxRecDepth 100000 in
set_option maxHeartbeats 16000000 in
theorem i_MinimalCover (m b0 : Int) (w : World) : Calls Try.prog 44 #[.agg #[.int .i64 m, .int .i64 b0]] w (OwnCubes (mCubes m b0) w) := by
 obtain ⟨i0, hi, hz0, hz1, hz2⟩ := info_parts Try.infoCube
 by_cases hk : tOk m b0 = true
 ·obtain ⟨b, rfl, hbb, hb16, hm⟩ := tOk_nat hk
  have Hk := Lib.hid hk
  have Hm := Lib.hid hm
  have hm0 := (inR_iff.1 hm).1
  have hm1 := (inR_iff.1 hm).2
  have He := Lib.hid (show pCubes m b = castL (Tb.prs m.toNat b) by rw [pCubes, if_pos hk]; rfl)
  have He2 := Lib.hid (show mCubes m b = castL (Tb.minimal m.toNat b) by rw [mCubes, if_pos hk]; rfl)
  have h81 := Tb.prs_len (n := m.toNat) (b := b) (by omega)
  clear hbb hm hk
  go_enter Try.func44, Try.ntmps44
  go_wp2_with fail
  refine (i_TableOk _ _ _).mono ?_
  rintro e w1 ⟨rfl, hb1⟩
  rw [Hk.out]
  have z1 := hb1.size
  try simp at z1
  (try have y1_0 : w.heap.size < w1.heap.size := (by omega))
  have q1_0 := fun o => (bcell hb1).1 (w.heap.size) o (by (try simp) <;> (try omega))
  have p1_0 := fun o => (bcell hb1).2 (w.heap.size) o (by (try simp) <;> (try omega))
  go_wp2_with fail
  refine (i_PrimeCubes _ _ _).mono ?_
  rw [He.out]
  rintro e w2 ⟨A, c, rfl, hown2, hb2⟩
  rw [castL_len] at hown2 ⊢
  have HT2 := Lib.hid (((Blk.new w 31 #[.int .i64 m, .int .i64 b]).below hb1 (by simp)).below hb2 y1_0)
  have Hb2 := Lib.hid ((((Below.refl w.heap.size w).alloc (Nat.le_refl _) _).trans (hb1.mono (by simp))).trans (hb2.mono (by omega)))
  have HO2 := Lib.hid (own_mono hown2 (base' := w.heap.size) (by omega))
  have z2 := hb2.size
  obtain ⟨P, hP⟩ : ∃ P, P = Tb.prs m.toNat b := ⟨_, rfl⟩
  have Hsub := Lib.hid (show P.Sublist (Tb.prs m.toNat b) by rw [hP]; exact List.Sublist.refl _)
  have HMin := Lib.hid (show Tb.minimal m.toNat b = Tb.minC (2 ^ m.toNat) b P.length P by rw [hP]; rfl)
  rw [← hP] at HO2 h81 ⊢
  clear hown2 hb1 hb2 q1_0 p1_0 hP
  go_wp2_with fail
  go_loopw [3, 4, 5] (fun ov kv _ wr => ∃ (L : List Tb.Cb) (j : Nat) (A : Option Addr) (c : Nat), ov = .slice A L.length c ∧ kv = .int .i64 ((j : Int) - 1) ∧ j ≤ L.length ∧ L.length ≤ 81 ∧ L.Sublist (Tb.prs m.toNat b) ∧ Tb.minC (2 ^ m.toNat) b j L = Tb.minimal m.toNat b ∧
   wr.ownsRow w.heap.size 61 2 (.slice A L.length c) L.length (cbs (castL L)) ∧ Blk wr w.heap.size 31 #[.int .i64 m, .int .i64 b] ∧ Below w.heap.size w wr) (fun _ kv _ _ => (intOf kv + 1).toNat)
  case atStart => exact ⟨P, P.length, A, c, rfl, by first | rfl | go_num, Nat.le_refl _, h81, Hsub.out, HMin.out.symm, HO2.out, HT2.out, Hb2.out⟩
  case round =>
   obtain ⟨L, j, A, c, rfl, rfl, hj, hL81, hsub, hmin, hown, hT, hb⟩ := hrel
   have Hsub := Lib.hid hsub
   have Hmin := Lib.hid hmin
   have HO := Lib.hid hown
   have HT := Lib.hid hT
   have Hb := Lib.hid hb
   have zr := hb.size
   have lT := hT.lt
   obtain ⟨A', c', hv, hcap, hcm, _⟩ := own_form hown
   injection hv with hv1 hv2 hv3
   subst hv1 hv3
   clear hsub hmin hown hT hb
   cases j with
   | zero =>
    go_wp2_with fail
    go_ret
    rw [He2.out, ← Hmin.out]
    unfold OwnCubes
    rw [Tb.minC, castL_len]
    exact ⟨A, c, rfl, HO.out, Hb.out⟩
   | succ k =>
    rw [show ((k + 1 : Nat) : Int) - 1 = (k : Int) by omega]
    have g1 : (0 : Int) ≤ (k : Int) := by omega
    have g2 : (k : Int) ≤ (L.length : Int) := by omega
    have g3 : (k : Int) + 1 ≤ (L.length : Int) := by omega
    have g4 : (L.length : Int) ≤ (c : Int) := by omega
    go_wp2_with fail
    have HO1 := Lib.hid ((HO.out).alloc (.cells #[] 61))
    have HE := Lib.hid (World.ownsRow_made (base := wr.heap.size) (size := 2) (e := 61) wr #[] 0 (by omega) (by unfold maxLen; omega) rfl)
    have RF := Lib.hid (show Reads (wr.alloc (.cells #[] 61)).drew wr.heap.size 2 A k (cbs (castL (L.take k))) by have h1 := ((((Reads.of_own HO.out).alloc (Nat.le_refl _) (.cells #[] 61)).drew).front (k := k) (by omega)); rw [cbs_take] at h1; rw [castL, List.map_take]; exact h1)
    refine wp_region_lexC (by kernel_rfl) (by kernel_rfl) (fun _ => True) (trivial) (fun lexNE => ?_)
    (repeat (first | (refine lex_r fun K hK => ?_; go_big_quiet_op; refine hK _ ?_; clear hK K) | (refine lex_k fun K hK => ?_; go_simp; refine hK _ ?_; clear hK K)))
    (refine lex_e fun K hK => ?_; go_big_op)
    refine hK _ _ (Cls.mk' trivial) ?_
    clear hK K
    (repeat (first | (refine lex_r fun K hK => ?_; go_big_quiet_op; refine hK _ ?_; clear hK K) | (refine lex_k fun K hK => ?_; go_simp; refine hK _ ?_; clear hK K)))
    refine lex_e fun K hK => ?_
    refine wp_append_any _ _ _ 49 (by rfl) wr.heap.size 61 i0 (.agg #[.int .i64 0, .int .i64 0]) 2 16 Try.underlying49 hi hz0 hz1 hz2 rfl (by decide) _ _ _ (by rfl) (own_drew HE.out) _ _ _ _ _ (by rfl) RF.out (cbs_one _) (by unfold maxLen; omega) (by omega) (by (try simp) <;> (try omega)) ?_
    intro v1 w5 hown5 hgrow5 hblk5
    go_simp
    simp only [Nat.zero_add, List.nil_append] at hown5
    obtain ⟨A1, c1, rfl, _, _, _⟩ := own_form hown5
    have HO5 := Lib.hid hown5
    refine hK _ _ (Cls.mk' trivial) ?_
    clear hK K
    have HbA := Lib.hid (((Below.refl wr.heap.size wr).alloc (Nat.le_refl _) (.cells #[] 61)).drew.trans (below_of_grown hgrow5 (by simp) (fun g hg => by simp [Value.ownBlock] at hg; omega)))
    have RL := Lib.hid (show Reads w5 wr.heap.size 2 (if c = k + 1 then A else A.map (·.add ((k + 1) * 2))) (L.length - (k + 1)) (cbs (castL (L.drop (k + 1)))) by
     have h1 := ((Reads.of_own HO.out).below HbA.out).cut (k := k + 1) (cap := c) (by omega) hcap
     rw [cbs_drop] at h1
     rw [castL, List.map_drop]
     exact h1)
    clear hgrow5 hblk5 hown5
    (repeat (first | (refine lex_r fun K hK => ?_; go_big_quiet_op; refine hK _ ?_; clear hK K) | (refine lex_k fun K hK => ?_; go_simp; refine hK _ ?_; clear hK K)))
    generalize (if c = k + 1 then A else Option.map (fun x => x.add ((k + 1) * 2)) A) = AX at RL ⊢
    refine lex_e fun K hK => ?_
    refine wp_append_any _ _ _ 49 (by rfl) wr.heap.size 61 i0 (.agg #[.int .i64 0, .int .i64 0]) 2 16 Try.underlying49 hi hz0 hz1 hz2 rfl (by decide) _ _ _ (by rfl) HO5.out _ _ _ _ _ (by rfl) RL.out (cbs_one _) (by unfold maxLen; omega) (by omega) HbA.out.size ?_
    intro v6 w6 hown6 hgrow6 hblk6
    go_simp
    obtain ⟨L', hL'⟩ : ∃ L', L' = L.eraseIdx k := ⟨_, rfl⟩
    have hlen' : L'.length = k + (L.length - (k + 1)) := by rw [hL', List.length_eraseIdx_of_lt (by omega)]; omega
    have hcat : cbs (castL (L.take k)) ++ cbs (castL (L.drop (k + 1))) = cbs (castL L') := by rw [hL', List.eraseIdx_eq_take_drop_succ, castL_app]; exact (recs_app _ _).symm
    rw [hcat, ← hlen'] at hown6
    obtain ⟨A6, c6, rfl, _, _, _⟩ := own_form hown6
    have Hbb := Lib.hid (HbA.out.trans (below_of_grown hgrow6 HbA.out.size (fun g hg => (HO5.out.lt g hg).1)))
    have HO6 := Lib.hid hown6
    have HL' := Lib.hid hL'
    have Hlen' := Lib.hid hlen'
    have hle' : L'.length ≤ L.length := by omega
    have z6 := Hbb.out.size
    clear hown6 hgrow6 hblk6 hcat hL' hlen'
    refine hK _ _ (Cls.mk' trivial) ?_
    clear hK K
    (repeat (first | (refine lex_r fun K hK => ?_; go_big_quiet_op; refine hK _ ?_; clear hK K) | (refine lex_k fun K hK => ?_; go_simp; refine hK _ ?_; clear hK K)))
    (refine lex_nil ?_)
    clear lexNE HbA RL RF HO5 HE HO1
    have hsub' := (List.eraseIdx_sublist L k).trans Hsub.out
    rw [← HL'.out] at hsub'
    have Hsub' := Lib.hid hsub'
    have HT6 := Lib.hid (HT.out.below Hbb.out lT)
    have Hb6 := Lib.hid (Hb.out.trans (Hbb.out.mono zr))
    have HOL := Lib.hid (own_below HO.out Hbb.out (Nat.le_refl _))
    have hct := cTab_prs Hm.out hsub'
    have Hct := Lib.hid hct
    have HmC := Lib.hid (show Tb.minC (2 ^ m.toNat) b (k + 1) L = Tb.minC (2 ^ m.toNat) b k (if Tb.ctab (2 ^ m.toNat) L' = b then L' else L) by rw [Tb.minC, HL'.out])
    have lT6 := HT6.out.lt
    have t0 := HT6.out.cell 0
    have t1 := HT6.out.cell 1
    simp only [List.getElem?_toArray, List.getElem?_cons_zero, List.getElem?_cons_succ] at t0 t1
    clear hsub' hct
    go_wp2_with fail
    refine wp_region_lexC (by kernel_rfl) (by kernel_rfl) (fun x => Below w6.heap.size w6 x) ((Below.refl _ _).drew) (fun lexNE => ?_)
    have cT := wd_blk t0 t1 lT6
    obtain ⟨cT0, cT1⟩ := cT
    (repeat (first | (refine lex_r fun K hK => ?_; go_big_quiet_op; refine hK _ ?_; clear hK K) | (refine lex_k fun K hK => ?_; go_simp; refine hK _ ?_; clear hK K)))
    (refine lex_e fun K hK => ?_; go_big_op)
    refine (i_CoverTable m ((Reads.of_own HO6.out).drew) (by simp) (by omega)).mono ?_
    rw [Hct.out]
    rintro e w7 ⟨rfl, hb7⟩
    have H7 := Lib.hid ((Below.refl w6.heap.size w6).drew.trans hb7)
    refine hK _ _ (Cls.mk' H7.out) ?_
    clear hK K hb7
    have HT7 := Lib.hid (HT6.out.below H7.out lT6)
    have Hb7 := Lib.hid (Hb6.out.trans (H7.out.mono Hb6.out.size))
    generalize Tb.ctab (2 ^ m.toNat) L' = T at HmC
    by_cases hTb : T = b
    ·have q1 : ((T : Int) == (b : Int)) = true := by rw [castEq]; exact decide_eq_true hTb
     have HmC2 := Lib.hid (show Tb.minC (2 ^ m.toNat) b k L' = Tb.minimal m.toNat b by rw [← Hmin.out, HmC.out, if_pos hTb])
     have HO7 := Lib.hid (own_mono (own_below HO6.out H7.out (Nat.le_refl _)) zr)
     clear hTb
     (repeat (first | (refine lex_r fun K hK => ?_; go_big_quiet_op; refine hK _ ?_; clear hK K) | (refine lex_k fun K hK => ?_; go_simp; refine hK _ ?_; clear hK K)))
     (refine lex_nil ?_)
     clear lexNE cT0 cT1 t0 t1
     go_wp2_with fail
     go_roundw
     case rel => exact ⟨L', k, A6, c6, rfl, rfl, by have := Hlen'.out; omega, by omega, Hsub'.out, HmC2.out, HO7.out, HT7.out, Hb7.out⟩
     case measure => simp [intOf] <;> omega
    ·have q1 : ((T : Int) == (b : Int)) = false := by rw [castEq]; exact decide_eq_false hTb
     have HmC2 := Lib.hid (show Tb.minC (2 ^ m.toNat) b k L = Tb.minimal m.toNat b by rw [← Hmin.out, HmC.out, if_neg hTb])
     have HO7 := Lib.hid (own_below HOL.out H7.out (Nat.le_refl _))
     clear hTb
     (repeat (first | (refine lex_r fun K hK => ?_; go_big_quiet_op; refine hK _ ?_; clear hK K) | (refine lex_k fun K hK => ?_; go_simp; refine hK _ ?_; clear hK K)))
     (refine lex_nil ?_)
     clear lexNE cT0 cT1 t0 t1
     go_wp2_with fail
     go_roundw
     case rel => exact ⟨L, k, A, c, rfl, rfl, by omega, hL81, Hsub.out, HmC2.out, HO7.out, HT7.out, Hb7.out⟩
     case measure => simp [intOf] <;> omega
 ·have hk : tOk m b0 = false := by simpa using hk
  have He := Lib.hid (show mCubes m b0 = [] by rw [mCubes, hk]; rfl)
  have Hk := Lib.hid hk
  clear hk
  go_enter Try.func44, Try.ntmps44
  go_wp2_with fail
  refine (i_TableOk _ _ _).mono ?_
  rintro e w1 ⟨rfl, hb1⟩
  rw [Hk.out]
  go_wp2_with fail
  go_ret
  unfold OwnCubes
  rw [He.out]
  exact ⟨none, 0, rfl, by simpa [cbs, recs] using World.ownsRow_nil _ _ _ _, bel_⟩

set_option maxRecDepth 100000 in
set_option maxHeartbeats 16000000 in
theorem s_MinimalCover (m b0 : Int) (w : World) : Calls Try.prog 43 #[.agg #[.int .i64 m, .int .i64 b0]] w (OwnCubes (mCubes m b0) w) := by
 obtain ⟨i0, hi, hz0, hz1, hz2⟩ := info_parts Try.infoCube
 by_cases hk : tOk m b0 = true
 ·obtain ⟨b, rfl, hbb, hb16, hm⟩ := tOk_nat hk
  have Hk := Lib.hid hk
  have Hm := Lib.hid hm
  have hm0 := (inR_iff.1 hm).1
  have hm1 := (inR_iff.1 hm).2
  have He := Lib.hid (show pCubes m b = castL (Tb.prs m.toNat b) by rw [pCubes, if_pos hk]; rfl)
  have He2 := Lib.hid (show mCubes m b = castL (Tb.minimal m.toNat b) by rw [mCubes, if_pos hk]; rfl)
  have h81 := Tb.prs_len (n := m.toNat) (b := b) (by omega)
  clear hbb hm hk
  go_enter Try.func43, Try.ntmps43
  go_wp2_with fail
  refine (s_PrimeCubes _ _ _).mono ?_
  rw [He.out]
  rintro e w1 ⟨A, c, rfl, hown1, hb1⟩
  rw [castL_len] at hown1 ⊢
  have z1 := hb1.size
  try simp at z1
  (try have y1_0 : w.heap.size < w1.heap.size := (by omega))
  have q1_0 := fun o => (bcell hb1).1 (w.heap.size) o (by (try simp) <;> (try omega))
  have p1_0 := fun o => (bcell hb1).2 (w.heap.size) o (by (try simp) <;> (try omega))
  go_wp2_with fail
  refine (s_TableOk _ _ _).mono ?_
  rintro e w2 ⟨rfl, hb2⟩
  rw [Hk.out]
  have HT2 := Lib.hid (((Blk.new w 31 #[.int .i64 m, .int .i64 b]).below hb1 (by simp)).below hb2 y1_0)
  have Hb2 := Lib.hid ((((Below.refl w.heap.size w).alloc (Nat.le_refl _) _).trans (hb1.mono (by simp))).trans (hb2.mono (by omega)))
  have HO2 := Lib.hid (own_below (own_mono hown1 (base' := w.heap.size) (by simp)) hb2 (Nat.le_refl _))
  have z2 := hb2.size
  obtain ⟨P, hP⟩ : ∃ P, P = Tb.prs m.toNat b := ⟨_, rfl⟩
  have Hsub := Lib.hid (show P.Sublist (Tb.prs m.toNat b) by rw [hP]; exact List.Sublist.refl _)
  have HMin := Lib.hid (show Tb.minimal m.toNat b = Tb.minC (2 ^ m.toNat) b P.length P by rw [hP]; rfl)
  rw [← hP] at HO2 h81 ⊢
  clear hown1 hb1 hb2 q1_0 p1_0 hP
  go_wp2_with fail
  go_loopw [3, 4] (fun ov kv wr => ∃ (L : List Tb.Cb) (j : Nat) (A : Option Addr) (c : Nat), ov = .slice A L.length c ∧ kv = .int .i64 ((j : Int) - 1) ∧ j ≤ L.length ∧ L.length ≤ 81 ∧ L.Sublist (Tb.prs m.toNat b) ∧ Tb.minC (2 ^ m.toNat) b j L = Tb.minimal m.toNat b ∧
   wr.ownsRow w.heap.size 61 2 (.slice A L.length c) L.length (cbs (castL L)) ∧ Blk wr w.heap.size 31 #[.int .i64 m, .int .i64 b] ∧ Below w.heap.size w wr) (fun _ kv _ => (intOf kv + 1).toNat)
  case atStart => exact ⟨P, P.length, A, c, rfl, by first | rfl | go_num, Nat.le_refl _, h81, Hsub.out, HMin.out.symm, HO2.out, HT2.out, Hb2.out⟩
  case round =>
   obtain ⟨L, j, A, c, rfl, rfl, hj, hL81, hsub, hmin, hown, hT, hb⟩ := hrel
   have Hsub := Lib.hid hsub
   have Hmin := Lib.hid hmin
   have HO0 := Lib.hid hown
   have HT := Lib.hid hT
   have Hb := Lib.hid hb
   have zr := hb.size
   have lT := hT.lt
   obtain ⟨A', c', hv, hcap, hcm, _⟩ := own_form hown
   injection hv with hv1 hv2 hv3
   subst hv1 hv3
   clear hsub hmin hown hT hb
   cases j with
   | zero =>
    go_wp2_with fail
    go_ret
    rw [He2.out, ← Hmin.out]
    unfold OwnCubes
    rw [Tb.minC, castL_len]
    exact ⟨A, c, rfl, HO0.out, Hb.out⟩
   | succ k =>
    rw [show ((k + 1 : Nat) : Int) - 1 = (k : Int) by omega]
    have g1 : (0 : Int) ≤ (k : Int) := by omega
    have g2 : (k : Int) ≤ (L.length : Int) := by omega
    have g3 : (k : Int) + 1 ≤ (L.length : Int) := by omega
    have g4 : (L.length : Int) ≤ (c : Int) := by omega
    have Hnb := Lib.hid (cv_natB (cv_prs Hm.out Hsub.out))
    have Hst := Lib.hid (sTab_prs (m := m) L k)
    have HmC := Lib.hid (show Tb.minC (2 ^ m.toNat) b (k + 1) L = Tb.minC (2 ^ m.toNat) b k (if Tb.ctab (2 ^ m.toNat) (L.eraseIdx k) = b then L.eraseIdx k else L) by rw [Tb.minC])
    have t0 := HT.out.cell 0
    have t1 := HT.out.cell 1
    simp only [List.getElem?_toArray, List.getElem?_cons_zero, List.getElem?_cons_succ] at t0 t1
    go_wp2_with fail
    refine wp_region_lexC (by kernel_rfl) (by kernel_rfl) (fun x => Below wr.heap.size wr x) ((Below.refl _ _).drew) (fun lexNE => ?_)
    have cT := wd_blk t0 t1 lT
    obtain ⟨cT0, cT1⟩ := cT
    (repeat (first | (refine lex_r fun K hK => ?_; go_big_quiet_op; refine hK _ ?_; clear hK K) | (refine lex_k fun K hK => ?_; go_simp; refine hK _ ?_; clear hK K)))
    (refine lex_e fun K hK => ?_; go_big_op)
    refine (s_l03Table m (k : Int) Hm.out ((Reads.of_own HO0.out).drew) (by simp) (by omega) Hnb.out).mono ?_
    rw [Hst.out]
    rintro e w7 ⟨rfl, hb7⟩
    have H7 := Lib.hid ((Below.refl wr.heap.size wr).drew.trans hb7)
    refine hK _ _ (Cls.mk' H7.out) ?_
    clear hK K hb7
    have HT7 := Lib.hid (HT.out.below H7.out lT)
    have Hb7 := Lib.hid (Hb.out.trans (H7.out.mono zr))
    have HO := Lib.hid (own_below HO0.out H7.out (Nat.le_refl _))
    have z7 := H7.out.size
    have lT7 := HT7.out.lt
    generalize Tb.ctab (2 ^ m.toNat) (L.eraseIdx k) = T at HmC
    by_cases hTb : T = b
    ·have q1 : ((T : Int) == (b : Int)) = true := by rw [castEq]; exact decide_eq_true hTb
     have HmC2 := Lib.hid (show Tb.minC (2 ^ m.toNat) b k (L.eraseIdx k) = Tb.minimal m.toNat b by rw [← Hmin.out, HmC.out, if_pos hTb])
     clear hTb
     (repeat (first | (refine lex_r fun K hK => ?_; go_big_quiet_op; refine hK _ ?_; clear hK K) | (refine lex_k fun K hK => ?_; go_simp; refine hK _ ?_; clear hK K)))
     (refine lex_nil ?_)
     clear lexNE cT0 cT1 t0 t1
     go_wp2_with fail
     have HO1 := Lib.hid ((HO.out).alloc (.cells #[] 61))
     have HE := Lib.hid (World.ownsRow_made (base := w7.heap.size) (size := 2) (e := 61) w7 #[] 0 (by omega) (by unfold maxLen; omega) rfl)
     have RF := Lib.hid (show Reads (w7.alloc (.cells #[] 61)).drew w7.heap.size 2 A k (cbs (castL (L.take k))) by have h1 := ((((Reads.of_own HO.out).alloc (Nat.le_refl _) (.cells #[] 61)).drew).front (k := k) (by omega)); rw [cbs_take] at h1; rw [castL, List.map_take]; exact h1)
     refine wp_region_lexC (by kernel_rfl) (by kernel_rfl) (fun _ => True) (trivial) (fun lexNE => ?_)
     (repeat (first | (refine lex_r fun K hK => ?_; go_big_quiet_op; refine hK _ ?_; clear hK K) | (refine lex_k fun K hK => ?_; go_simp; refine hK _ ?_; clear hK K)))
     (refine lex_e fun K hK => ?_; go_big_op)
     refine hK _ _ (Cls.mk' trivial) ?_
     clear hK K
     (repeat (first | (refine lex_r fun K hK => ?_; go_big_quiet_op; refine hK _ ?_; clear hK K) | (refine lex_k fun K hK => ?_; go_simp; refine hK _ ?_; clear hK K)))
     refine lex_e fun K hK => ?_
     refine wp_append_any _ _ _ 49 (by rfl) w7.heap.size 61 i0 (.agg #[.int .i64 0, .int .i64 0]) 2 16 Try.underlying49 hi hz0 hz1 hz2 rfl (by decide) _ _ _ (by rfl) (own_drew HE.out) _ _ _ _ _ (by rfl) RF.out (cbs_one _) (by unfold maxLen; omega) (by omega) (by (try simp) <;> (try omega)) ?_
     intro v1 w5 hown5 hgrow5 hblk5
     go_simp
     simp only [Nat.zero_add, List.nil_append] at hown5
     obtain ⟨A1, c1, rfl, _, _, _⟩ := own_form hown5
     have HO5 := Lib.hid hown5
     refine hK _ _ (Cls.mk' trivial) ?_
     clear hK K
     have HbA := Lib.hid (((Below.refl w7.heap.size w7).alloc (Nat.le_refl _) (.cells #[] 61)).drew.trans (below_of_grown hgrow5 (by simp) (fun g hg => by simp [Value.ownBlock] at hg; omega)))
     have RL := Lib.hid (show Reads w5 w7.heap.size 2 (if c = k + 1 then A else A.map (·.add ((k + 1) * 2))) (L.length - (k + 1)) (cbs (castL (L.drop (k + 1)))) by
      have h1 := ((Reads.of_own HO.out).below HbA.out).cut (k := k + 1) (cap := c) (by omega) hcap
      rw [cbs_drop] at h1
      rw [castL, List.map_drop]
      exact h1)
     clear hgrow5 hblk5 hown5
     (repeat (first | (refine lex_r fun K hK => ?_; go_big_quiet_op; refine hK _ ?_; clear hK K) | (refine lex_k fun K hK => ?_; go_simp; refine hK _ ?_; clear hK K)))
     generalize (if c = k + 1 then A else Option.map (fun x => x.add ((k + 1) * 2)) A) = AX at RL ⊢
     refine lex_e fun K hK => ?_
     refine wp_append_any _ _ _ 49 (by rfl) w7.heap.size 61 i0 (.agg #[.int .i64 0, .int .i64 0]) 2 16 Try.underlying49 hi hz0 hz1 hz2 rfl (by decide) _ _ _ (by rfl) HO5.out _ _ _ _ _ (by rfl) RL.out (cbs_one _) (by unfold maxLen; omega) (by omega) HbA.out.size ?_
     intro v6 w6 hown6 hgrow6 hblk6
     go_simp
     obtain ⟨L', hL'⟩ : ∃ L', L' = L.eraseIdx k := ⟨_, rfl⟩
     have hlen' : L'.length = k + (L.length - (k + 1)) := by rw [hL', List.length_eraseIdx_of_lt (by omega)]; omega
     have hcat : cbs (castL (L.take k)) ++ cbs (castL (L.drop (k + 1))) = cbs (castL L') := by rw [hL', List.eraseIdx_eq_take_drop_succ, castL_app]; exact (recs_app _ _).symm
     rw [hcat, ← hlen'] at hown6
     obtain ⟨A6, c6, rfl, _, _, _⟩ := own_form hown6
     have Hbb := Lib.hid (HbA.out.trans (below_of_grown hgrow6 HbA.out.size (fun g hg => (HO5.out.lt g hg).1)))
     have HO6 := Lib.hid hown6
     have HL' := Lib.hid hL'
     have Hlen' := Lib.hid hlen'
     have hle' : L'.length ≤ L.length := by omega
     have z6 := Hbb.out.size
     clear hown6 hgrow6 hblk6 hcat hL' hlen'
     refine hK _ _ (Cls.mk' trivial) ?_
     clear hK K
     (repeat (first | (refine lex_r fun K hK => ?_; go_big_quiet_op; refine hK _ ?_; clear hK K) | (refine lex_k fun K hK => ?_; go_simp; refine hK _ ?_; clear hK K)))
     (refine lex_nil ?_)
     clear lexNE HbA RL RF HO5 HE HO1
     have HmC3 := Lib.hid (show Tb.minC (2 ^ m.toNat) b k L' = Tb.minimal m.toNat b by rw [HL'.out]; exact HmC2.out)
     have hsub' := (List.eraseIdx_sublist L k).trans Hsub.out
     rw [← HL'.out] at hsub'
     have Hsub' := Lib.hid hsub'
     have HT6 := Lib.hid (HT7.out.below Hbb.out lT7)
     have Hb6 := Lib.hid (Hb7.out.trans (Hbb.out.mono (by omega)))
     have HO8 := Lib.hid (own_mono HO6.out (base' := w.heap.size) (by omega))
     clear hsub'
     go_wp2_with fail
     go_roundw
     case rel => exact ⟨L', k, A6, c6, rfl, rfl, by have := Hlen'.out; omega, by omega, Hsub'.out, HmC3.out, HO8.out, HT6.out, Hb6.out⟩
     case measure => simp [intOf] <;> omega
    ·have q1 : ((T : Int) == (b : Int)) = false := by rw [castEq]; exact decide_eq_false hTb
     have HmC2 := Lib.hid (show Tb.minC (2 ^ m.toNat) b k L = Tb.minimal m.toNat b by rw [← Hmin.out, HmC.out, if_neg hTb])
     clear hTb
     (repeat (first | (refine lex_r fun K hK => ?_; go_big_quiet_op; refine hK _ ?_; clear hK K) | (refine lex_k fun K hK => ?_; go_simp; refine hK _ ?_; clear hK K)))
     (refine lex_nil ?_)
     clear lexNE cT0 cT1 t0 t1
     go_wp2_with fail
     go_roundw
     case rel => exact ⟨L, k, A, c, rfl, rfl, by omega, hL81, Hsub.out, HmC2.out, HO.out, HT7.out, Hb7.out⟩
     case measure => simp [intOf] <;> omega
 ·have hk : tOk m b0 = false := by simpa using hk
  have He := Lib.hid (show mCubes m b0 = [] by rw [mCubes, hk]; rfl)
  have He1 := Lib.hid (show pCubes m b0 = [] by rw [pCubes, hk]; rfl)
  have Hk := Lib.hid hk
  clear hk
  go_enter Try.func43, Try.ntmps43
  go_wp2_with fail
  refine (s_PrimeCubes _ _ _).mono ?_
  rw [He1.out]
  rintro e w1 ⟨A, c, rfl, hown1, hb1⟩
  have z1 := hb1.size
  try simp at z1
  (try have y1_0 : w.heap.size < w1.heap.size := (by omega))
  have q1_0 := fun o => (bcell hb1).1 (w.heap.size) o (by (try simp) <;> (try omega))
  have p1_0 := fun o => (bcell hb1).2 (w.heap.size) o (by (try simp) <;> (try omega))
  go_wp2_with fail
  refine (s_TableOk _ _ _).mono ?_
  rintro e w2 ⟨rfl, hb2⟩
  rw [Hk.out]
  have HO2 := Lib.hid (own_below (own_mono hown1 (base' := w.heap.size) (by simp)) hb2 (Nat.le_refl _))
  go_wp2_with fail
  go_ret
  unfold OwnCubes
  rw [He.out]
  exact ⟨A, c, rfl, HO2.out, bel_⟩
end Go.Proofs.Ytbkgjgpoohlieaa
