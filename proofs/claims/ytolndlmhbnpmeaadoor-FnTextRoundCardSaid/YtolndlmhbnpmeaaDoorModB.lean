/- Contracts: is an instance valid: the program's function. -/
import Derived.Test.YtolndlmhbnpmeaaDoorModA
import Derived.Outline
namespace Go.Proofs.YtolndlmhbnpmeaaDoor
open Go.RowKit

/-- an operation whose guard was itself left out is left out -/
theorem unwanted_u {l : List Oper} {tl : List Value} {ds : List Deferred} {o : Oper} {j d : Nat} {want : Bool} (hg : o.guard = some (j, want)) (hj : (l[j]?).bind (·.dst) = some d) (hv : tl[d]? = some undef) :
  Region.wanted o (yielded l.toArray (Act.mk tl.toArray ds).tmps) = false := by
 unfold Region.wanted
 rw [hg]
 simp only [yielded, List.getElem?_toArray, hj, Option.bind_some, hv]
 cases want <;> rfl
/-- a port and the signal at it -/
def ptB (sg sg' : List TSignal) (x : Int × Int) : Bool := inR x.2 0 (sg.length - 1) && (!decide (kindAt sg' x.1 = 1) || drivesB sg x.2)
def instB (d : TDesign) (m : TModule) (x : TInst) : Bool := inR x.2.1 0 4 && ((portsM (md d x.1)).zip x.2.2).all (ptB m.1 (md d x.1).1)

set_option maxRecDepth 100000 in
set_option maxHeartbeats 8000000 in
theorem i_instOk {w : World} {S : Nat → Prop} {vd vm : Value} {d : TDesign} {m m' : TModule} {p : Nat} {pr : Int} {ps : List Int} {A2 : Option Addr} {c2 : Nat} (hd : RDesign w S vd d) (hm : RModule w S vm m) (hps : Rep w S (.slice A2 ps.length c2) (fIntS ps)) (hS : ∀ b, S b → b < w.heap.size)
  (hx : d[p]? = some m') (hl : ps.length = (portsM m').length) :
  Calls Tryd.prog 52 #[vd, vm, .agg #[.int .i64 (p : Int), .int .i64 pr, .slice A2 ps.length c2]] w fun e w' => e = .returned (.bool (instB d m ((p : Int), pr, ps))) ∧ Below w.heap.size w w' := by
 obtain ⟨A, c, rfl, hr, hml⟩ := dsn_open hd
 obtain ⟨n, hdl⟩ : ∃ n, d.length = n := ⟨_, rfl⟩
 have hpn : p < n := by rw [← hdl]; exact (List.getElem?_eq_some_iff.1 hx).1
 rw [hdl] at hr hml ⊢
 unfold maxLen at hml
 have Hmd := Lib.hid (md_get hx)
 obtain ⟨B0, b0, B1, b1, B2, b2, B3, b3, rfl, hSm, -, -, -, hsm, -⟩ := mod_open hm
 obtain ⟨ns, hns⟩ : ∃ ns, m.1.length = ns := ⟨_, rfl⟩
 have Hns := Lib.hid hns
 unfold maxLen at hsm
 rw [hns] at hsm hSm hm ⊢
 obtain ⟨ad, m9, D0, u0, D1, u1, D2, u2, D3, u3, rfl, hab, hx9, hR9, hml9, e0, e1, e2, e3⟩ := mod_row hr hpn
 rw [hx] at hx9
 injection hx9 with hx9
 subst hx9
 have hab1 := hS _ hab
 have hms := hml9.1
 unfold maxLen at hms
 obtain ⟨_, _, _, _, _, _, _, _, hae', hSg', _⟩ := mod_open hR9
 simp only [Value.agg.injEq, Array.mk.injEq, List.cons.injEq, Value.slice.injEq, true_and, and_true] at hae'
 obtain ⟨⟨rfl, rfl⟩, -, -, -⟩ := hae'
 have HRm := Lib.hid hm
 have HR9 := Lib.hid hR9
 have HSg' := Lib.hid hSg'
 have Hps := Lib.hid hps
 obtain ⟨P, hP⟩ : ∃ P, P = portsM m' := ⟨_, rfl⟩
 have hPl : P.length ≤ 30 := by rw [hP]; exact portsL_len _
 rw [← hP] at hl
 have HP := Lib.hid hP
 have Hl := Lib.hid hl
 obtain ⟨W0, hW0⟩ : ∃ W0, W0 = ((w.alloc (.cells #[.slice (some ad) n c] 26)).alloc (.cells #[.slice B0 ns b0, .slice B1 m.2.1.length b1, .slice B2 m.2.2.1.length b2, .slice B3 m.2.2.2.length b3] 50)).alloc (.cells #[.int .i64 (p : Int), .int .i64 pr, .slice A2 ps.length c2] 75) := ⟨_, rfl⟩
 have hz0 : W0.heap.size = w.heap.size + 1 + 1 + 1 := by rw [hW0]; simp
 have HXd := Lib.hid (show Blk W0 w.heap.size 26 #[.slice (some ad) n c] by rw [hW0]; exact ((Blk.new w _ _).alloc _).alloc _)
 have HXm := Lib.hid (show Blk W0 (w.heap.size + 1) 50 #[.slice B0 ns b0, .slice B1 m.2.1.length b1, .slice B2 m.2.2.1.length b2, .slice B3 m.2.2.2.length b3] by rw [hW0]; exact (blk_new_at (by simp)).alloc _)
 have HXi := Lib.hid (show Blk W0 (w.heap.size + 1 + 1) 75 #[.int .i64 (p : Int), .int .i64 pr, .slice A2 ps.length c2] by rw [hW0]; exact blk_new_at (by simp))
 have HB0 := Lib.hid (show Below w.heap.size w W0 by rw [hW0]; exact bel_)
 have g5 : (0 : Int) ≤ (p : Int) := by omega
 have g6 : (p : Int) < (n : Int) := by omega
 have f0 := (HB0.out.cell (p := ad.add (p * 4)) (by rw [block_of_add]; exact hab1)).trans e0
 have f1 := (HB0.out.cell (p := nxt (ad.add (p * 4)) 1) (by rw [nxt_block]; exact hab1)).trans e1
 have f2 := (HB0.out.cell (p := nxt (ad.add (p * 4)) 2) (by rw [nxt_block]; exact hab1)).trans e2
 have f3 := (HB0.out.cell (p := nxt (ad.add (p * 4)) 3) (by rw [nxt_block]; exact hab1)).trans e3
 clear hd hm hps hdl hx hr hns hSm hR9 hml9 e0 e1 e2 e3 hSg' hP hl
 have yd := blkS1 HXd.out
 obtain ⟨yi0, yi1, yi2⟩ := (show _ ∧ _ ∧ _ from ⟨HXi.out.cell 0, HXi.out.cell 1, HXi.out.cell 2⟩)
 simp only [List.getElem?_toArray, List.getElem?_cons_zero, List.getElem?_cons_succ] at yi0 yi1 yi2
 cases hq4 : inR pr 0 4 with
 | false =>
  have Hq4 := Lib.hid hq4
  clear hq4
  go_enter Tryd.func52, Tryd.ntmps52
  go_wp2_with fail
  rw [← hW0]
  clear hW0
  refine (i_inRange pr 0 4 _).mono ?_
  rintro e w9 ⟨rfl, rfl⟩
  rw [Hq4.out]
  go_wp2_with fail
  go_ret
  exact ⟨ret_bool (by simp only [instB]; rw [Hq4.out]; rfl), HB0.out⟩
 | true =>
  have Hq4 := Lib.hid hq4
  clear hq4
  go_enter Tryd.func52, Tryd.ntmps52
  go_wp2_with fail
  rw [← hW0]
  clear hW0
  refine (i_inRange pr 0 4 _).mono ?_
  rintro e w9 ⟨rfl, rfl⟩
  rw [Hq4.out]
  go_wp2_with fail
  refine (i_PortsOf (RModule.keep HR9.out (fun q hq => (World.cell?_alloc_lt _ _ q (by have := hS _ hq; omega)).trans (HB0.out.cell (hS _ hq)))) (fun b hb => by have := hS b hb; (try simp) <;> omega)).mono ?_
  rintro e W5 ⟨v', rfl, hq8, hb8⟩
  rw [← HP.out] at hq8
  obtain ⟨A8, c8, rfl, hP8, _⟩ := sl_form hq8.rep (List.length_map _)
  have z5 : W0.heap.size + 1 ≤ W5.heap.size := by have h1 := hb8.size; simpa using h1
  have HP8 := Lib.hid (hP8.mono (S' := fun b => b < W5.heap.size) (fun b hb => hb.2))
  have HXm5 := Lib.hid ((HXm.out.alloc (.cells #[.slice D0 m'.1.length u0, .slice D1 m'.2.1.length u1, .slice D2 m'.2.2.1.length u2, .slice D3 m'.2.2.2.length u3] 50)).below hb8 (by simp; omega))
  have HXi5 := Lib.hid ((HXi.out.alloc (.cells #[.slice D0 m'.1.length u0, .slice D1 m'.2.1.length u1, .slice D2 m'.2.2.1.length u2, .slice D3 m'.2.2.2.length u3] 50)).below hb8 (by simp; omega))
  have HXn5 := Lib.hid ((Blk.new W0 50 #[.slice D0 m'.1.length u0, .slice D1 m'.2.1.length u1, .slice D2 m'.2.2.1.length u2, .slice D3 m'.2.2.2.length u3]).below hb8 (by simp))
  rw [hz0] at HXn5
  have HB5 := Lib.hid ((HB0.out.alloc (by omega) (.cells #[.slice D0 m'.1.length u0, .slice D1 m'.2.1.length u1, .slice D2 m'.2.2.1.length u2, .slice D3 m'.2.2.2.length u3] 50)).trans (hb8.mono (by simp; omega)))
  clear hq8 hP8 hb8 f0 f1 f2 f3 yd yi0 yi1 yi2
  obtain ⟨np, hnp⟩ : ∃ np, P.length = np := ⟨_, rfl⟩
  rw [hnp] at HP8 hPl ⊢
  have Hnp := Lib.hid hnp
  clear hnp
  go_wp2_with fail
  go_loopw [8, 9, 23] (fun _ _ iv wz => ∃ q : Nat, q ≤ np ∧ iv = .int .i64 q ∧ Hid (((P.zip ps).take q).all (ptB m.1 m'.1) = true) ∧ Below W5.heap.size W5 wz) (fun _ _ iv _ => np - (intOf iv).toNat)
  case atStart => exact ⟨0, Nat.zero_le _, rfl, Lib.hid rfl, Below.refl _ _⟩
  case round =>
   obtain ⟨q, hq, rfl, Hok, hb4⟩ := hrel
   have Hb4 := Lib.hid hb4
   have z6 := hb4.size
   have HB6 := Lib.hid (HB5.out.trans (hb4.mono (by omega)))
   have HXm6 := Lib.hid (HXm5.out.below hb4 HXm5.out.lt)
   have HXi6 := Lib.hid (HXi5.out.below hb4 HXi5.out.lt)
   have HXn6 := Lib.hid (HXn5.out.below hb4 HXn5.out.lt)
   have HRm6 := Lib.hid (HRm.out.under hS HB6.out)
   clear hb4
   by_cases hlt4 : q < np
   ·obtain ⟨ad8, y, rfl, hab8, hy, cP⟩ := fIntS_row (Rep.under HP8.out (fun _ h => h) Hb4.out) hlt4
    obtain ⟨ix, sy, rfl, hsy⟩ := ports_mem (m := m') (by rw [← HP.out]; exact hy)
    have hil := (List.getElem?_eq_some_iff.1 hsy).1
    obtain ⟨ad9, x0, x1, x2, rfl, hab9, hx9, s0, s1, s2⟩ := fSignalS_row (HSg'.out.under hS HB6.out) hil
    obtain ⟨ad7, zz, rfl, hab7, hz7, cz⟩ := fIntS_row (Hps.out.under hS HB6.out) (show q < ps.length by rw [Hl.out, Hnp.out]; exact hlt4)
    have hzip : (P.zip ps)[q]? = some ((ix : Int), zz) := List.getElem?_zip_eq_some.2 ⟨hy, hz7⟩
    have Hzip := Lib.hid hzip
    have Hsp := Lib.hid (all_take (p := ptB m.1 m'.1) hzip)
    have Hka := Lib.hid (show kindAt m'.1 (ix : Int) = x0 by simp [kindAt, List.getD, hx9])
    have Hpt := Lib.hid (show ptB m.1 m'.1 ((ix : Int), zz) = (inR zz 0 ((ns : Int) - 1) && (!decide (x0 = 1) || drivesB m.1 zz)) by simp only [ptB]; rw [Hns.out, Hka.out])
    have hbP : ad8.block < wr.heap.size := by omega
    have hbs : ad9.block < wr.heap.size := by have := hS _ hab9; omega
    have hbz : ad7.block < wr.heap.size := by have := hS _ hab7; omega
    have g27 : (0 : Int) ≤ (q : Int) := by omega
    have g28 : (q : Int) < (np : Int) := by omega
    have g29 : (0 : Int) ≤ (ix : Int) := by omega
    have g20 : (ix : Int) < (m'.1.length : Int) := by omega
    have g21 : (q : Int) < (ps.length : Int) := by have := Hl.out; have := Hnp.out; omega
    clear hy hsy hx9 hz7 hzip
    cases hq : inR zz 0 ((ns : Int) - 1) with
    | false =>
     have Hq := Lib.hid hq
     clear hq
     go_wp2_with fail
     refine wp_region_lexC (by kernel_rfl) (by kernel_rfl) (fun x => Below wr.heap.size wr x) ((Below.refl _ _).drew) (fun lexNE => ?_)
     obtain ⟨ci0, ci1, ci2⟩ := bwS3 HXi6.out HXi6.out.lt
     obtain ⟨cm0, cm1, cm2, cm3⟩ := bwS4 HXm6.out HXm6.out.lt
     obtain ⟨cn0, cn1, cn2, cn3⟩ := bwS4 HXn6.out HXn6.out.lt
     have dz := wcell cz (by rw [block_of_add]; exact hbz)
     have ds := wcell s0 (by rw [block_of_add]; exact hbs)
     have dP := wcell cP (by rw [block_of_add]; exact hbP)
     (repeat (first | (refine lex_r fun K hK => ?_; go_big_quiet_op; refine hK _ ?_; clear hK K) | (refine lex_k fun K hK => ?_; go_simp; refine hK _ ?_; clear hK K)))
     (refine lex_e fun K hK => ?_; go_big_op)
     refine (i_inRange zz 0 ((ns : Int) - 1) _).mono ?_
     rintro e w9 ⟨rfl, rfl⟩
     rw [Hq.out]
     refine hK _ _ (Cls.mk' ((Below.refl _ _).drew)) ?_
     clear hK K
     (repeat (first | (refine lex_r fun K hK => ?_; go_big_quiet_op; refine hK _ ?_; clear hK K) | (refine lex_k fun K hK => ?_; go_simp; refine hK _ ?_; clear hK K)))
     (repeat (first | (refine lex_skip' (by exact unwanted_u rfl rfl rfl) (fun K hK => ?_); go_simp; refine hK _ ?_; clear hK K)))
     (repeat (first | (refine lex_r fun K hK => ?_; go_big_quiet_op; refine hK _ ?_; clear hK K) | (refine lex_k fun K hK => ?_; go_simp; refine hK _ ?_; clear hK K)))
     (refine lex_nil ?_)
     clear lexNE ci0 ci1 ci2 cm0 cm1 cm2 cm3 cn0 cn1 cn2 cn3 dz ds dP
     go_wp2_with fail
     go_ret
     exact ⟨ret_bool (by simp only [instB]; rw [Hmd.out, ← HP.out, all_not Hzip.out (by rw [Hpt.out, Hq.out]; rfl), Bool.and_false]), HB6.out.drew⟩
    | true =>
     have Hq := Lib.hid hq
     clear hq
     by_cases hk1 : x0 = 1
     ·subst hk1
      cases hdr : drivesB m.1 zz with
      | false =>
       have Hdr := Lib.hid hdr
       clear hdr
       go_wp2_with fail
       refine wp_region_lexC (by kernel_rfl) (by kernel_rfl) (fun x => Below wr.heap.size wr x) ((Below.refl _ _).drew) (fun lexNE => ?_)
       obtain ⟨ci0, ci1, ci2⟩ := bwS3 HXi6.out HXi6.out.lt
       obtain ⟨cm0, cm1, cm2, cm3⟩ := bwS4 HXm6.out HXm6.out.lt
       obtain ⟨cn0, cn1, cn2, cn3⟩ := bwS4 HXn6.out HXn6.out.lt
       have dz := wcell cz (by rw [block_of_add]; exact hbz)
       have ds := wcell s0 (by rw [block_of_add]; exact hbs)
       have dP := wcell cP (by rw [block_of_add]; exact hbP)
       (repeat (first | (refine lex_r fun K hK => ?_; go_big_quiet_op; refine hK _ ?_; clear hK K) | (refine lex_k fun K hK => ?_; go_simp; refine hK _ ?_; clear hK K)))
       (refine lex_e fun K hK => ?_; go_big_op)
       refine (i_inRange zz 0 ((ns : Int) - 1) _).mono ?_
       rintro e w9 ⟨rfl, rfl⟩
       rw [Hq.out]
       refine hK _ _ (Cls.mk' ((Below.refl _ _).drew)) ?_
       clear hK K
       (repeat (first | (refine lex_r fun K hK => ?_; go_big_quiet_op; refine hK _ ?_; clear hK K) | (refine lex_k fun K hK => ?_; go_simp; refine hK _ ?_; clear hK K)))
       (refine lex_e fun K hK => ?_; go_big_op)
       refine (i_drives zz (RModule.keep (w' := wr.drew) HRm6.out (fun _ _ => rfl)) (fun b hb => by have := hS b hb; show b < wr.heap.size; omega)).mono ?_
       rintro e w8 ⟨rfl, hb8⟩
       rw [Hdr.out]
       have H8 := Lib.hid ((Below.refl wr.heap.size wr).drew.trans hb8)
       refine hK _ _ (Cls.mk' H8.out) ?_
       clear hK K hb8
       (repeat (first | (refine lex_r fun K hK => ?_; go_big_quiet_op; refine hK _ ?_; clear hK K) | (refine lex_k fun K hK => ?_; go_simp; refine hK _ ?_; clear hK K)))
       (refine lex_nil ?_)
       clear lexNE ci0 ci1 ci2 cm0 cm1 cm2 cm3 cn0 cn1 cn2 cn3 dz ds dP
       go_wp2_with fail
       go_ret
       exact ⟨ret_bool (by simp only [instB]; rw [Hmd.out, ← HP.out, all_not Hzip.out (by rw [Hpt.out, Hq.out, Hdr.out]; rfl), Bool.and_false]), HB6.out.trans (H8.out.mono (by omega))⟩
      | true =>
       have Hdr := Lib.hid hdr
       clear hdr
       go_wp2_with fail
       refine wp_region_lexC (by kernel_rfl) (by kernel_rfl) (fun x => Below wr.heap.size wr x) ((Below.refl _ _).drew) (fun lexNE => ?_)
       obtain ⟨ci0, ci1, ci2⟩ := bwS3 HXi6.out HXi6.out.lt
       obtain ⟨cm0, cm1, cm2, cm3⟩ := bwS4 HXm6.out HXm6.out.lt
       obtain ⟨cn0, cn1, cn2, cn3⟩ := bwS4 HXn6.out HXn6.out.lt
       have dz := wcell cz (by rw [block_of_add]; exact hbz)
       have ds := wcell s0 (by rw [block_of_add]; exact hbs)
       have dP := wcell cP (by rw [block_of_add]; exact hbP)
       (repeat (first | (refine lex_r fun K hK => ?_; go_big_quiet_op; refine hK _ ?_; clear hK K) | (refine lex_k fun K hK => ?_; go_simp; refine hK _ ?_; clear hK K)))
       (refine lex_e fun K hK => ?_; go_big_op)
       refine (i_inRange zz 0 ((ns : Int) - 1) _).mono ?_
       rintro e w9 ⟨rfl, rfl⟩
       rw [Hq.out]
       refine hK _ _ (Cls.mk' ((Below.refl _ _).drew)) ?_
       clear hK K
       (repeat (first | (refine lex_r fun K hK => ?_; go_big_quiet_op; refine hK _ ?_; clear hK K) | (refine lex_k fun K hK => ?_; go_simp; refine hK _ ?_; clear hK K)))
       (refine lex_e fun K hK => ?_; go_big_op)
       refine (i_drives zz (RModule.keep (w' := wr.drew) HRm6.out (fun _ _ => rfl)) (fun b hb => by have := hS b hb; show b < wr.heap.size; omega)).mono ?_
       rintro e w8 ⟨rfl, hb8⟩
       rw [Hdr.out]
       have H8 := Lib.hid ((Below.refl wr.heap.size wr).drew.trans hb8)
       refine hK _ _ (Cls.mk' H8.out) ?_
       clear hK K hb8
       (repeat (first | (refine lex_r fun K hK => ?_; go_big_quiet_op; refine hK _ ?_; clear hK K) | (refine lex_k fun K hK => ?_; go_simp; refine hK _ ?_; clear hK K)))
       (refine lex_nil ?_)
       clear lexNE ci0 ci1 ci2 cm0 cm1 cm2 cm3 cn0 cn1 cn2 cn3 dz ds dP
       go_wp2_with fail
       go_roundw
       case rel => exact ⟨q + 1, by omega, by go_num, Lib.hid (by rw [Hsp.out, Hok.out, Hpt.out, Hq.out, Hdr.out]; rfl), Hb4.out.trans (H8.out.mono (by omega))⟩
       case measure => simp [intOf]; omega
     ·have qz : (x0 == 1) = false := by simpa using hk1
      have Hk1 := Lib.hid hk1
      clear hk1
      go_wp2_with fail
      refine wp_region_lexC (by kernel_rfl) (by kernel_rfl) (fun x => Below wr.heap.size wr x) ((Below.refl _ _).drew) (fun lexNE => ?_)
      obtain ⟨ci0, ci1, ci2⟩ := bwS3 HXi6.out HXi6.out.lt
      obtain ⟨cm0, cm1, cm2, cm3⟩ := bwS4 HXm6.out HXm6.out.lt
      obtain ⟨cn0, cn1, cn2, cn3⟩ := bwS4 HXn6.out HXn6.out.lt
      have dz := wcell cz (by rw [block_of_add]; exact hbz)
      have ds := wcell s0 (by rw [block_of_add]; exact hbs)
      have dP := wcell cP (by rw [block_of_add]; exact hbP)
      (repeat (first | (refine lex_r fun K hK => ?_; go_big_quiet_op; refine hK _ ?_; clear hK K) | (refine lex_k fun K hK => ?_; go_simp; refine hK _ ?_; clear hK K)))
      (refine lex_e fun K hK => ?_; go_big_op)
      refine (i_inRange zz 0 ((ns : Int) - 1) _).mono ?_
      rintro e w9 ⟨rfl, rfl⟩
      rw [Hq.out]
      refine hK _ _ (Cls.mk' ((Below.refl _ _).drew)) ?_
      clear hK K
      (repeat (first | (refine lex_r fun K hK => ?_; go_big_quiet_op; refine hK _ ?_; clear hK K) | (refine lex_k fun K hK => ?_; go_simp; refine hK _ ?_; clear hK K)))
      (refine lex_nil ?_)
      clear lexNE ci0 ci1 ci2 cm0 cm1 cm2 cm3 cn0 cn1 cn2 cn3 dz ds dP
      go_wp2_with fail
      go_roundw
      case rel => exact ⟨q + 1, by omega, by go_num, Lib.hid (by rw [Hsp.out, Hok.out, Hpt.out, Hq.out, decide_eq_false Hk1.out]; rfl), Hb4.out.drew⟩
      case measure => simp [intOf]; omega
   ·have hge4 : (np : Int) ≤ (q : Int) := by omega
    have hqn : q = np := by omega
    have He := Lib.hid (show instB d m ((p : Int), pr, ps) = true by
     have h1 := Hok.out
     rw [List.take_of_length_le (l := P.zip ps) (by rw [List.length_zip]; have := Hnp.out; omega)] at h1
     simp only [instB]
     rw [Hmd.out, ← HP.out, h1, Hq4.out]
     rfl)
    clear hqn
    go_wp2_with fail
    go_ret
    exact ⟨ret_bool He.out.symm, HB6.out⟩
end Go.Proofs.YtolndlmhbnpmeaaDoor
