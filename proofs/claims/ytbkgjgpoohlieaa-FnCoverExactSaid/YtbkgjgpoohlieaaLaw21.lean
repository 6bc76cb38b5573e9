/- Law of exact covers: for every code a minimal cover of the drawn table has the table, and all its cubes are prime implicants. Conditions: none. -/
import Derived.Test.YtbkgjgpoohlieaaFrame3
import Derived.Test.YtbkgjgpoohlieaaDrawT
import Derived.Test.YtbkgjgpoohlieaaCovL
import Derived.Outline
import Derived.Deep.DeepCutAuto
namespace Go.Proofs.Ytbkgjgpoohlieaa
open Go.ChangeShapes Go.WideShapes Go.ChangeAt Go.RowKit

theorem Reads.castAt {w : World} {B n : Nat} {A : Option Addr} {L : List Tb.Cb} (h : Reads w B 2 A n (cbs (castL L))) {k : Nat} (hk : k < n) :
  ∃ (ad : Addr) (x : Tb.Cb), A = some ad ∧ ad.block < B ∧ L[k]? = some x ∧ w.cell? (ad.add (k * 2)) = some (.int .i64 (x.1 : Nat)) ∧ w.cell? (nxt (ad.add (k * 2)) 1) = some (.int .i64 (x.2 : Nat)) := by
 obtain ⟨ad, c, v, rfl, hb, hx, h0, h1⟩ := h.cube_at hk
 have hl : k < L.length := by
  have := (List.getElem?_eq_some_iff.1 hx).1
  simpa [castL] using this
 have hxx : L[k]? = some L[k] := List.getElem?_eq_getElem hl
 rw [castL_get hxx] at hx
 injection hx with hx
 injection hx with e1 e2
 exact ⟨ad, L[k], rfl, hb, hxx, by rw [e1]; exact h0, by rw [e2]; exact h1⟩

set_option maxRecDepth 100000 in
set_option maxHeartbeats 8000000 in
theorem walk_FnCoverExact (A : Option Addr) (n c : Nat) (l : List UInt8) (w : World) (hr : Reads w w.heap.size 1 A n (bys l)) : Calls Try.prog 10 #[.slice A n c] w fun e w' => e = .returned (.bool true) ∧ Below w.heap.size w w' := by
 by_cases hb : n ≤ 1048576
 ·go_enter Try.func10, Try.ntmps10
  go_wp2_with (first | (go_at_call 12; go_in))
  refine (s_DrawTable hr hb).mono ?_
  rintro e w1 ⟨m, b0, i0, rfl, hok, hi0, hi1, hb1⟩
  obtain ⟨hm, b, rfl, hbb⟩ := tOk_split hok
  obtain ⟨i, rfl⟩ := Int.eq_ofNat_of_zero_le hi0
  have hi1' : i < 2 ^ m.toNat := by have := pow_nat m; omega
  have Hok := Lib.hid hok
  have Hm := Lib.hid hm
  have Hi := Lib.hid hi1
  have hm0 := (inR_iff.1 hm).1
  have hm1 := (inR_iff.1 hm).2
  have HT1 := Lib.hid (Blk.new w1 31 #[.int .i64 m, .int .i64 b])
  have Hb1 := Lib.hid (hb1.alloc hb1.size (.cells #[.int .i64 m, .int .i64 b] 31))
  have He1 := Lib.hid (show mCubes m b = castL (Tb.minimal m.toNat b) by rw [mCubes, if_pos hok]; rfl)
  have He2 := Lib.hid (show pCubes m b = castL (Tb.prs m.toNat b) by rw [pCubes, if_pos hok]; rfl)
  obtain ⟨C, hC⟩ : ∃ C, C = Tb.minimal m.toNat b := ⟨_, rfl⟩
  obtain ⟨P, hP⟩ : ∃ P, P = Tb.prs m.toNat b := ⟨_, rfl⟩
  have hsub := minimal_sub hok
  have hC81 : C.length ≤ 81 := by rw [hC]; exact Nat.le_trans hsub.length_le (Tb.prs_len (by omega))
  have hP81 : P.length ≤ 81 := by rw [hP]; exact Tb.prs_len (by omega)
  have HC1 := Lib.hid (show cTab m (castL C) = (m, (b : Int)) by rw [hC, cTab_prs hm hsub, minimal_tab hok])
  have HP1 := Lib.hid (show cTab m (castL P) = (m, (b : Int)) by rw [hP, cTab_prs hm (List.Sublist.refl _), prs_tab hok])
  have HEl := Lib.hid (fun k x (h : C[k]? = some x) => (show cOk m x.1 x.2 = true ∧ x.1 < 16 ∧ x.2 < 16 from cEl hm (hC ▸ hsub) h))
  have HElP := Lib.hid (fun k x (h : P[k]? = some x) => (show cOk m x.1 x.2 = true ∧ x.1 < 16 ∧ x.2 < 16 from cEl hm (by rw [hP]; exact List.Sublist.refl _) h))
  have HIn := Lib.hid (show ∀ x ∈ C, x ∈ P by rw [hC, hP]; exact hsub.subset)
  have HEv := Lib.hid (show (C.any fun x => Tb.hit x i) = tEv m b i by rw [hC]; exact any_ev hok hi1' (minimal_tab hok))
  rw [← hC] at He1
  rw [← hP] at He2
  have z1 := hb1.size
  clear hsub hok hm hi1 hi1' hb1 hC hP hbb
  go_wp2_with fail
  refine (i_MinimalCover _ _ _).mono ?_
  rw [He1.out]
  rintro e w2 ⟨A2, c2, rfl, hown2, hb2⟩
  rw [castL_len] at hown2 ⊢
  have R2 := Lib.hid (Reads.of_own hown2)
  have HT2 := Lib.hid (HT1.out.below hb2 HT1.out.lt)
  have Hb2 := Lib.hid (Hb1.out.trans (hb2.mono Hb1.out.size))
  have z2 := hb2.size
  simp at z2
  obtain ⟨t0, t1⟩ := blk2c HT2.out
  clear hown2 hb2
  go_wp2_with fail
  refine (i_PrimeCubes _ _ _).mono ?_
  rw [He2.out]
  rintro e w3 ⟨A3, c3, rfl, hown3, hb3⟩
  rw [castL_len] at hown3 ⊢
  have R3 := Lib.hid (Reads.of_own hown3)
  have Q3 := Lib.hid ((R2.out.below hb3).more (B' := w3.heap.size) hb3.size)
  have HT3 := Lib.hid (HT2.out.below hb3 HT2.out.lt)
  have Hb3 := Lib.hid (Hb2.out.trans (hb3.mono Hb2.out.size))
  have lT3 := HT3.out.lt
  obtain ⟨t0, t1⟩ := blk2c HT3.out
  clear hown3 hb3 HT1 HT2 R2 Hb1 Hb2
  go_wp2_with fail
  refine wp_region_lexC (by kernel_rfl) (by kernel_rfl) (fun x => Below w3.heap.size w3 x) ((Below.refl _ _).drew) (fun lexNE => ?_)
  have cT := wd_blk t0 t1 lT3
  obtain ⟨cT0, cT1⟩ := cT
  (repeat (first | (refine lex_r fun K hK => ?_; go_big_quiet_op; refine hK _ ?_; clear hK K) | (refine lex_k fun K hK => ?_; go_simp; refine hK _ ?_; clear hK K)))
  (refine lex_e fun K hK => ?_; go_big_op)
  refine (i_CoverTable m Q3.out.drew (by simp) (by omega)).mono ?_
  rw [HC1.out]
  rintro e w4 ⟨rfl, hb4⟩
  have H4 := Lib.hid ((Below.refl w3.heap.size w3).drew.trans hb4)
  refine hK _ _ (Cls.mk' H4.out) ?_
  clear hK K hb4
  (repeat (first | (refine lex_r fun K hK => ?_; go_big_quiet_op; refine hK _ ?_; clear hK K) | (refine lex_k fun K hK => ?_; go_simp; refine hK _ ?_; clear hK K)))
  (refine lex_e fun K hK => ?_; go_big_op)
  refine (i_CoverTable m (R3.out.below H4.out) H4.out.size (by omega)).mono ?_
  rw [HP1.out]
  rintro e w5 ⟨rfl, hb5⟩
  have H5 := Lib.hid (H4.out.trans (hb5.mono H4.out.size))
  refine hK _ _ (Cls.mk' H5.out) ?_
  clear hK K hb5
  (repeat (first | (refine lex_r fun K hK => ?_; go_big_quiet_op; refine hK _ ?_; clear hK K) | (refine lex_k fun K hK => ?_; go_simp; refine hK _ ?_; clear hK K)))
  (refine lex_nil ?_)
  clear lexNE cT0 cT1 t0 t1
  have HT5 := Lib.hid (HT3.out.below H5.out lT3)
  have Hb5 := Lib.hid (Hb3.out.trans (H5.out.mono Hb3.out.size))
  have RC := Lib.hid (Q3.out.below H5.out)
  have RP := Lib.hid (R3.out.below H5.out)
  have z5 := H5.out.size
  clear HT3 Hb3 Q3 R3 H4 H5
  go_wp2_with fail
  go_loopw [7, 8, 9, 10] (fun fv kv _ _ wr => ∃ k : Nat, k ≤ C.length ∧ kv = .int .i64 k ∧ fv = .bool (anyT C i k) ∧ Reads wr w3.heap.size 2 A2 C.length (cbs (castL C)) ∧ Reads wr w3.heap.size 2 A3 P.length (cbs (castL P)) ∧ Blk wr w1.heap.size 31 #[.int .i64 m, .int .i64 b] ∧ Below w.heap.size w wr ∧ w3.heap.size ≤ wr.heap.size) (fun _ kv _ _ _ => C.length - (intOf kv).toNat)
  case atStart => exact ⟨0, Nat.zero_le _, rfl, rfl, RC.out, RP.out, HT5.out, Hb5.out, z5⟩
  case round =>
   obtain ⟨k, hk, rfl, rfl, hRC, hRP, hT, hbr, hz⟩ := hrel
   have HRC := Lib.hid hRC
   have HRP := Lib.hid hRP
   have HT := Lib.hid hT
   have Hbr := Lib.hid hbr
   have lT := hT.lt
   clear hRC hRP hT hbr RC RP HT5 Hb5
   by_cases hlt : k < C.length
   ·obtain ⟨ad, x, rfl, hab, hx, hc0, hc1⟩ := HRC.out.castAt hlt
    obtain ⟨hxo, hx1, hx2⟩ := HEl.out k x hx
    have Hxo := Lib.hid (cHas_hit hxo Hm.out (by omega : (0 : Int) ≤ i) Hi.out)
    have HxP := Lib.hid (HIn.out x (List.mem_of_getElem? hx))
    have HAn := Lib.hid (anyT_succ (i := i) hx)
    obtain ⟨x1, x2⟩ := x
    simp only at hx1 hx2 hc0 hc1 Hxo HxP HAn
    have Hc0 := Lib.hid hc0
    have Hc1 := Lib.hid hc1
    have g1 : (0 : Int) ≤ (k : Int) := by omega
    have g2 : (k : Int) < (C.length : Int) := by omega
    clear hx hxo hc0 hc1
    go_wp2_with fail
    obtain ⟨wo, hwo⟩ : ∃ wo : World, wo = wr := ⟨_, rfl⟩
    rw [← hwo] at HRC HRP HT Hbr lT hz Hc0 Hc1 ⊢
    clear hwo
    go_loopw [9, 10] (fun sv jv wx => ∃ j : Nat, j ≤ P.length ∧ jv = .int .i64 j ∧ sv = .bool (isIn P (x1, x2) j) ∧ ∃ q, wx = wo.drewN q) (fun _ jv _ => P.length - (intOf jv).toNat)
    case atStart => exact ⟨0, Nat.zero_le _, rfl, rfl, 0, rfl⟩
    case round =>
     obtain ⟨j, hj, rfl, rfl, q, rfl⟩ := hrel
     by_cases hjl : j < P.length
     ·obtain ⟨ad', y, rfl, hab', hy, hd0, hd1⟩ := HRP.out.castAt hjl
      obtain ⟨_, hy1, hy2⟩ := HElP.out j y hy
      have HIs := Lib.hid (isIn_succ (x := (x1, x2)) hy)
      obtain ⟨y1, y2⟩ := y
      simp only at hy1 hy2 hd0 hd1 HIs
      have hc0 := Hc0.out
      have hc1 := Hc1.out
      have g3 : (0 : Int) ≤ (j : Int) := by omega
      have g4 : (j : Int) < (P.length : Int) := by omega
      have hdec : decide ((y1, y2) = (x1, x2)) = (((y1 : Int) == (x1 : Int)) && ((y2 : Int) == (x2 : Int))) := by
       rw [castEq, castEq, ← Bool.decide_and]
       apply decide_eq_decide.2
       simp
      rw [hdec] at HIs
      clear hdec hy
      cases hX : isIn P (x1, x2) j
      ·have HI2 := Lib.hid (show isIn P (x1, x2) (j + 1) = (((y1 : Int) == (x1 : Int)) && ((y2 : Int) == (x2 : Int))) by rw [HIs.out, hX]; simp)
       clear hX
       go_wp2_with fail
       refine wp_region_lex (by kernel_rfl) (by kernel_rfl) (Cls (fun x => x = wo.drewN (q + 1))) (Cls.mk' rfl) ?_
       have lexNE : Nonempty (Wd (fun x => x = wo.drewN (q + 1))) := ⟨⟨_, rfl⟩⟩
       have lexW : ∀ W : Wd (fun x => x = wo.drewN (q + 1)), W.val = wo.drewN (q + 1) := fun W => W.ok
       (repeat (first | (refine lex_r fun K hK => ?_; go_big_quiet_op; refine hK _ ?_; clear hK K) | (refine lex_k fun K hK => ?_; go_simp; refine hK _ ?_; clear hK K)))
       (refine lex_nil ?_)
       clear lexNE lexW
       go_wp2_with fail
       go_roundw
       case rel => exact ⟨j + 1, by omega, by go_num, by rw [HI2.out], q + 1, rfl⟩
       case measure => simp [intOf]; omega
      ·have HI2 := Lib.hid (show isIn P (x1, x2) (j + 1) = true by rw [HIs.out, hX]; simp)
       clear hX
       go_wp2_with fail
       refine wp_region_lex (by kernel_rfl) (by kernel_rfl) (Cls (fun x => x = wo.drewN (q + 1))) (Cls.mk' rfl) ?_
       have lexNE : Nonempty (Wd (fun x => x = wo.drewN (q + 1))) := ⟨⟨_, rfl⟩⟩
       have lexW : ∀ W : Wd (fun x => x = wo.drewN (q + 1)), W.val = wo.drewN (q + 1) := fun W => W.ok
       (repeat (first | (refine lex_r fun K hK => ?_; go_big_quiet_op; refine hK _ ?_; clear hK K) | (refine lex_k fun K hK => ?_; go_simp; refine hK _ ?_; clear hK K)))
       (refine lex_nil ?_)
       clear lexNE lexW
       go_wp2_with fail
       go_roundw
       case rel => exact ⟨j + 1, by omega, by go_num, by rw [HI2.out], q + 1, rfl⟩
       case measure => simp [intOf]; omega
     ·have hjl' : j = P.length := by omega
      have Hin := Lib.hid (isIn_all HxP.out hjl')
      have g4 : (P.length : Int) ≤ (j : Int) := by omega
      obtain ⟨t0, t1⟩ := blk2c HT.out
      have hc0 := Hc0.out
      have hc1 := Hc1.out
      rw [Hin.out]
      clear hjl'
      cases hX : anyT C i k
      ·have HA2 := Lib.hid (show anyT C i (k + 1) = Tb.hit (x1, x2) i by rw [HAn.out, hX]; simp)
       clear hX
       go_wp2_with fail
       refine wp_region_lexC (by kernel_rfl) (by kernel_rfl) (fun x => Below wo.heap.size wo x) ((below_drewN (Below.refl _ _) _).drew) (fun lexNE => ?_)
       have cT := wd_blk t0 t1 lT
       obtain ⟨cT0, cT1⟩ := cT
       have r0 := fun W : Wd (fun x => Below wo.heap.size wo x) => (W.ok.cell (p := ad.add (k * 2)) (by rw [block_of_add]; omega)).trans hc0
       have r1 := fun W : Wd (fun x => Below wo.heap.size wo x) => (W.ok.cell (p := nxt (ad.add (k * 2)) 1) (by rw [nxt_block]; omega)).trans hc1
       (repeat (first | (refine lex_r fun K hK => ?_; go_big_quiet_op; refine hK _ ?_; clear hK K) | (refine lex_k fun K hK => ?_; go_simp; refine hK _ ?_; clear hK K)))
       (refine lex_e fun K hK => ?_; go_big_op)
       refine (i_CubeHas _ _ _ _ _).mono ?_
       rw [Hxo.out, Int.toNat_natCast]
       rintro e w6 ⟨rfl, hb6⟩
       have H6 := Lib.hid ((below_drewN (Below.refl wo.heap.size wo) (q + 1)).trans (hb6.mono (Nat.le_refl _)))
       refine hK _ _ (Cls.mk' H6.out) ?_
       clear hK K hb6
       (repeat (first | (refine lex_r fun K hK => ?_; go_big_quiet_op; refine hK _ ?_; clear hK K) | (refine lex_k fun K hK => ?_; go_simp; refine hK _ ?_; clear hK K)))
       (refine lex_nil ?_)
       clear lexNE cT0 cT1 r0 r1
       go_wp2_with fail
       go_roundw
       case rel => exact ⟨k + 1, by omega, by go_num, by rw [HA2.out], HRC.out.below (H6.out.mono hz), HRP.out.below (H6.out.mono hz), HT.out.below H6.out lT, Hbr.out.trans (H6.out.mono Hbr.out.size), Nat.le_trans hz H6.out.size⟩
       case measure => simp [intOf]; omega
      ·have HA2 := Lib.hid (show anyT C i (k + 1) = true by rw [HAn.out, hX]; simp)
       clear hX
       go_wp2_with fail
       refine wp_region_lex (by kernel_rfl) (by kernel_rfl) (Cls (fun x => x = wo.drewN (q + 1))) (Cls.mk' rfl) ?_
       have lexNE : Nonempty (Wd (fun x => x = wo.drewN (q + 1))) := ⟨⟨_, rfl⟩⟩
       have lexW : ∀ W : Wd (fun x => x = wo.drewN (q + 1)), W.val = wo.drewN (q + 1) := fun W => W.ok
       (repeat (first | (refine lex_r fun K hK => ?_; go_big_quiet_op; refine hK _ ?_; clear hK K) | (refine lex_k fun K hK => ?_; go_simp; refine hK _ ?_; clear hK K)))
       (refine lex_nil ?_)
       clear lexNE lexW
       go_wp2_with fail
       go_roundw
       case rel => exact ⟨k + 1, by omega, by go_num, by rw [HA2.out], HRC.out.drewN _, HRP.out.drewN _, HT.out.drewN _, below_drewN Hbr.out _, hz⟩
       case measure => simp [intOf]; omega
   ·have hkl : k = C.length := by omega
    have HAl := Lib.hid (show anyT C i k = tEv m b i by rw [hkl, anyT, List.take_length]; exact HEv.out)
    have g2 : (C.length : Int) ≤ (k : Int) := by omega
    obtain ⟨t0, t1⟩ := blk2c HT.out
    rw [HAl.out]
    clear hkl
    go_wp2_with fail
    refine (s_TableEval _ _ _ _).mono ?_
    rintro e w6 ⟨rfl, hb6⟩
    have Hb6 := Lib.hid (Hbr.out.trans (hb6.mono Hbr.out.size))
    clear hb6
    go_wp2_with fail
    go_ret
    exact ⟨by simp, Hb6.out⟩
 ·have hb2 : 1048576 < n := by omega
  go_enter Try.func10, Try.ntmps10
  go_wp2_with (first | (go_at_call 12; go_in))
  go_ret
  exact ⟨rfl, Below.refl _ _⟩
set_option maxRecDepth 100000 in
theorem lifted_FnCoverExact (os : Os) (started : os.Started) (H : Type) (enc : TypeId × Value → H) :
  ReturnsInHanded {} Try.checked os 10 .any (Rows.fnCoverExactSpec.pre6 enc Try.prog Try.f10 Rows.fnCoverExactRow.domain false) (Rows.fnCoverExactSpec.post enc Try.prog Try.f10 false true false false) := by
 refine lift (F := 10) (fn := Try.f10) (s := Rows.fnCoverExactSpec) (conds := Rows.fnCoverExactRow.domain) (by kernel_rfl) Try.func10 (by kernel_rfl) rfl (by kernel_rfl) ?_ ?_ os started H enc
  (ChangeSpec.witness6 (enc := enc) (C := Try.checked) false ⟨#[], #[.slice none 0 0], []⟩ 8 (by kernel_rfl) (by kernel_rfl) (by kernel_rfl) (by kernel_rfl))
 ·intro H ds hl
  rw [Try.params10] at hl
  match ds, hl with
  | [d0], _ => exact ⟨rfl, rfl, rfl⟩
 ·intro W base args H enc ds p hval hA hlt
  rw [Try.params10] at hA hval
  obtain ⟨v0, vs0, e0, es0, p0, q0, hargs, rfl, rfl, h0, r0⟩ := trodAll_cons hA
  obtain ⟨rfl, rfl, rfl⟩ := trodAll_nil r0
  obtain rfl : args = #[v0] := by cases args; simp_all
  obtain ⟨A0, n0, c0, l, rfl, w0⟩ := op_bytes Try.underlying22 Try.underlying5 (by kernel_rfl) (hval 0 22 v0 rfl rfl) h0 (fun x hx => hlt x (by simp [hx]))
  exact walk_FnCoverExact A0 n0 c0 l W w0
theorem facts_FnCoverExact : joinedFacts Try.pinned.checked.prog 10 Try.f10 Rows.fnCoverExactSpec Rows.fnCoverExactRow = true :=
 facts_of (P := Try.prog) mayE liftE makeE rfl rfl (by kernel_rfl) (by kernel_rfl) (by kernel_rfl) (by kernel_rfl) (by kernel_rfl) (by kernel_rfl) (by kernel_rfl) (by kernel_rfl) (by kernel_rfl) (by kernel_rfl) (by kernel_rfl) (by kernel_rfl) (by kernel_rfl) rfl rfl (by kernel_rfl) (by kernel_rfl) (by kernel_rfl) (by kernel_rfl) (by kernel_rfl) (by kernel_rfl) (by kernel_rfl) (by kernel_rfl) (by kernel_rfl) (by kernel_rfl) (by kernel_rfl) rfl rfl (by kernel_rfl) (by kernel_rfl) (by kernel_rfl)
theorem over_FnCoverExact : Rows.fnCoverExactRow.holds Try.pinned (OpenSpec.ofChange Rows.fnCoverExactSpec) :=
 OpenClaim.holds_of_wide 10 Try.f10 rfl rfl rfl rfl rfl rfl rfl ⟨rfl, rfl, rfl, rfl, rfl⟩ rfl rfl rfl rfl rfl (by kernel_rfl) Try.func10 facts_FnCoverExact
  (of_decide_eq_true (by kernel_rfl)) (by unfold Func.isWrapper; first | (rw [if_pos (by decide +kernel)]; kernel_rfl) | (rw [if_neg (by decide +kernel)]; exact ⟨rfl, rfl⟩))
  (fun os started H enc _ => lifted_FnCoverExact os started H enc)
theorem FnCoverExact_holds : Rows.FnCoverExactSaid := over_FnCoverExact
end Go.Proofs.Ytbkgjgpoohlieaa
