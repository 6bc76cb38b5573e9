/- Contracts: is a module valid: the reference's function. -/
import Derived.Test.YthjdigcpgpiiiaaDoorModC
import Derived.Outline
namespace Go.Proofs.YthjdigcpgpiiiaaDoor
open Go.RowKit

theorem kindAt_ok {sg : List TSignal} (h : sg.all sigB = true) {s : Int} (hs : inR s 0 (sg.length - 1) = true) : 0 ≤ kindAt sg s ∧ kindAt sg s ≤ 3 := by
 obtain ⟨h1, h2⟩ := inR_iff.1 hs
 obtain ⟨sn, rfl⟩ := Int.eq_ofNat_of_zero_le h1
 have hx : sg[sn]? = some sg[sn] := List.getElem?_eq_getElem (by omega)
 have hq := List.all_eq_true.1 h _ (List.mem_of_getElem? hx)
 have hk : kindAt sg (sn : Int) = (sg[sn]'(by omega)).1 := by simp [kindAt, List.getD, hx]
 rw [hk]
 simp only [sigB, Bool.and_eq_true] at hq
 exact inR_iff.1 hq.1
theorem kindOf_neg {sg : List TSignal} (h : sg.all sigB = true) (s : Int) : decide (kindOf sg s < 0) = !inR s 0 (sg.length - 1) := by
 unfold kindOf
 cases hs : inR s 0 (sg.length - 1) with
 | false => simp
 | true =>
  have := kindAt_ok h hs
  simp
  omega
theorem asg_driven (sg : List TSignal) (a : Int) : (drivesB sg a || decide (kindOf sg a = 3)) = (inR a 0 (sg.length - 1) && drivenB (kindAt sg a)) := by
 unfold drivesB kindOf drivenB
 cases inR a 0 (sg.length - 1) with
 | false => simp
 | true =>
  simp only [Bool.true_and, if_true]
  rw [← Bool.decide_or, decide_eq_decide]
  omega
theorem drivenB_pos {k : Int} (h : 0 ≤ k ∧ k ≤ 3) (h0 : k ≠ 0) : drivenB k = true := by
 unfold drivenB; rw [decide_eq_true]; omega

set_option maxRecDepth 100000 in
set_option maxHeartbeats 16000000 in
theorem s_ModuleOk {w : World} {S : Nat → Prop} {v : Value} {d : TDesign} (k : Int) (hzd : sDesign d ≤ 1099511627776) (h : RDesign w S v d) (hS : ∀ b, S b → b < w.heap.size) :
  Calls Tryd.prog 35 #[v, .int .i64 k] w fun e w' => e = .returned (.bool (moduleB d k)) ∧ Below w.heap.size w w' := by
 obtain ⟨A, c, rfl, hr, hm⟩ := dsn_open h
 obtain ⟨n, hl⟩ : ∃ n, d.length = n := ⟨_, rfl⟩
 rw [hl] at hr hm h ⊢
 have Hl := Lib.hid hl
 have H := Lib.hid h
 unfold maxLen at hm
 have HD := Lib.hid (Blk.new w 24 #[.slice A n c])
 have HB := Lib.hid ((Below.refl w.heap.size w).alloc (Nat.le_refl _) (.cells #[.slice A n c] 24))
 have HDk := Lib.hid (RDesign.keep (w' := w.alloc (.cells #[.slice A n c] 24)) h (fun p hp => World.cell?_alloc_lt _ _ p (hS _ hp)))
 have hS1 : ∀ b, S b → b < (w.alloc (.cells #[.slice A n c] 24)).heap.size := fun b hb => by have := hS b hb; simp; omega
 clear hl h
 cases hL : l04C d k with
 | false =>
  have HL := Lib.hid hL
  clear hL
  go_enter Tryd.func35, Tryd.ntmps35
  go_wp2_with fail
  refine (s_l04Counts k HDk.out hS1).mono ?_
  rintro e w1 ⟨rfl, hb1⟩
  rw [HL.out]
  have Hb1 := Lib.hid (HB.out.trans (hb1.mono (by simp)))
  go_wp2_with fail
  go_ret
  exact ⟨ret_bool (by unfold moduleB; rw [HL.out]; rfl), Hb1.out⟩
 | true =>
  obtain ⟨⟨h1, h2⟩, hcb, hib⟩ := l04C_iff.1 hL
  obtain ⟨kn, rfl⟩ := Int.eq_ofNat_of_zero_le h1
  have hkn : kn < n := by have := Hl.out; omega
  have g5 : (0 : Int) ≤ (kn : Int) := by omega
  have g6 : (kn : Int) < (n : Int) := by omega
  have HL := Lib.hid hL
  have HR := Lib.hid hr
  obtain ⟨ad, m, A0, c0, A1, c1, A2, c2, A3, c3, rfl, hab, hx, -, -, -, -, -, -⟩ := mod_row hr hkn
  have hmd := md_get hx
  have Hx0 := Lib.hid hx
  have hab1 := hS _ hab
  have hc1 : cntOk1 m = true := by
   unfold countsB at hcb
   simp only [Bool.and_eq_true] at hcb
   exact List.all_eq_true.1 hcb.2 m (List.mem_of_getElem? hx)
  obtain ⟨b0, b1, b2, b3⟩ := cntOk1_iff.1 hc1
  have Hmb := Lib.hid (show moduleB d (kn : Int) = modB d m by unfold moduleB; rw [hL, hmd]; rfl)
  have HibM := Lib.hid (show m.2.2.1.all (insB d kn) = true by have h1 := hib; unfold instsB at h1; rw [hmd] at h1; exact h1)
  have Hopl := Lib.hid (fun (a : TAssign) (ha : a ∈ m.2.1) => ops_len hzd (List.mem_of_getElem? hx) ha)
  obtain ⟨ns, hns⟩ : ∃ ns, m.1.length = ns := ⟨_, rfl⟩
  obtain ⟨na, hna⟩ : ∃ na, m.2.1.length = na := ⟨_, rfl⟩
  obtain ⟨ni, hni⟩ : ∃ ni, m.2.2.1.length = ni := ⟨_, rfl⟩
  obtain ⟨nm, hnm⟩ : ∃ nm, m.2.2.2.length = nm := ⟨_, rfl⟩
  have Hn := Lib.hid (And.intro hns (And.intro hna (And.intro hni hnm)))
  have Hdc := Lib.hid (show ∀ sn : Nat, sn < ns → dcB d (kn : Int) (sn : Int) = ((drvN d m sn : Nat) : Int) from fun sn hsn => by
   unfold dcB
   rw [hL, hmd, hns, show inR (sn : Int) 0 ((ns : Int) - 1) = true from inR_iff.2 (by omega)]
   simp)
  rw [hns] at b0
  rw [hna] at b1
  rw [hni] at b2
  rw [hnm] at b3
  clear hL h1 h2 hx hr hcb hc1 hmd hib hns hna hni hnm hzd
  go_enter Tryd.func35, Tryd.ntmps35
  go_wp2_with fail
  refine (s_l04Counts (kn : Int) HDk.out hS1).mono ?_
  rintro e w3 ⟨rfl, hb3⟩
  rw [HL.out]
  have Hb3 := Lib.hid (HB.out.trans (hb3.mono (by simp)))
  have z3 := hb3.size
  simp at z3
  have HD3 := Lib.hid (HD.out.below hb3 HD.out.lt)
  have yd3 := blkS1 HD3.out
  clear hb3
  obtain ⟨adx, m9, B0, d0, B1, d1, B2, d2, B3, d3, hAe, _, hx9, hR9, _, e0, e1, e2, e3⟩ := mod_row (HR.out.under hS Hb3.out) hkn
  obtain rfl : ad = adx := by injection hAe
  obtain rfl : m = m9 := by have h1 := Hx0.out; rw [hx9] at h1; injection h1 with h1; exact h1.symm
  rw [Hn.out.1] at e0 hR9
  rw [Hn.out.2.1] at e1 hR9
  rw [Hn.out.2.2.1] at e2 hR9
  rw [Hn.out.2.2.2] at e3 hR9
  obtain ⟨_, _, _, _, _, _, _, _, hae, hSg, hAs, hIn, hMe, -⟩ := mod_open hR9
  rw [Hn.out.1] at hae hSg
  rw [Hn.out.2.1] at hae hAs
  rw [Hn.out.2.2.1] at hae hIn
  rw [Hn.out.2.2.2] at hae hMe
  simp only [Value.agg.injEq, Array.mk.injEq, List.cons.injEq, Value.slice.injEq, true_and, and_true] at hae
  obtain ⟨⟨rfl, rfl⟩, ⟨rfl, rfl⟩, ⟨rfl, rfl⟩, rfl, rfl⟩ := hae
  obtain ⟨W1, hW1⟩ : ∃ W1, W1 = w3.alloc (.cells #[.slice B0 ns d0, .slice B1 na d1, .slice B2 ni d2, .slice B3 nm d3] 42) := ⟨_, rfl⟩
  have hkw : ∀ p : Addr, S p.block → W1.cell? p = w3.cell? p := fun p hp => by rw [hW1]; exact World.cell?_alloc_lt _ _ p (by have := hS _ hp; omega)
  have HSg1 := Lib.hid (hSg.keep hkw)
  have HAs1 := Lib.hid (hAs.keep hkw)
  have HIn1 := Lib.hid (hIn.keep hkw)
  have HMe1 := Lib.hid (hMe.keep hkw)
  have HRm1 := Lib.hid (hR9.keep hkw)
  have HXm := Lib.hid (show Blk W1 w3.heap.size 42 #[.slice B0 ns d0, .slice B1 na d1, .slice B2 ni d2, .slice B3 nm d3] by rw [hW1]; exact Blk.new _ _ _)
  have HXd := Lib.hid (show Blk W1 w.heap.size 24 #[.slice (some ad) n c] by rw [hW1]; exact HD3.out.alloc _)
  have HB1 := Lib.hid (show Below w.heap.size w W1 by rw [hW1]; exact Hb3.out.alloc (by omega) _)
  have hz1 : W1.heap.size = w3.heap.size + 1 := by rw [hW1]; simp
  have hSW : ∀ b, S b → b < W1.heap.size := fun b hb => by have := hS b hb; omega
  clear hkw hSg hAs hIn hMe hR9 hx9 hAe
  go_wp2_with fail
  rw [← hW1]
  clear hW1 yd3 e0 e1 e2 e3
  go_loopw [6, 7] (fun iv _ wr => ∃ j : Nat, j ≤ ns ∧ iv = .int .i64 j ∧ (Hid ((m.1.take j).all sigB = true) ∧ Hid ((List.range j).all (drvB1 d m) = true)) ∧ Below W1.heap.size W1 wr) (fun iv _ _ => ns - (intOf iv).toNat)
  case atStart => exact ⟨0, Nat.zero_le _, rfl, ⟨Lib.hid rfl, Lib.hid rfl⟩, Below.refl _ _⟩
  case round =>
   obtain ⟨j, hj, rfl, Hok, hb⟩ := hrel
   have Hb := Lib.hid hb
   have hsz := hb.size
   have HBw := Lib.hid (HB1.out.trans (hb.mono (by omega)))
   have HXd6 := Lib.hid (HXd.out.below hb HXd.out.lt)
   have HXm6 := Lib.hid (HXm.out.below hb HXm.out.lt)
   obtain ⟨y0, y1, y2, y3⟩ := blkS4 HXm6.out
   have yd := blkS1 HXd6.out
   have g1 : (0 : Int) ≤ (j : Int) := by omega
   clear hb
   by_cases hlt : j < ns
   ·obtain ⟨ad1, x0, x1, x2, rfl, hab1, hx, s0, s1, s2⟩ := fSignalS_row (HSg1.out.under hSW Hb.out) hlt
    have g2 : (j : Int) < (ns : Int) := by omega
    have Hx := Lib.hid hx
    have Hs := Lib.hid (all_take (p := sigB) hx)
    have Hka := Lib.hid (show kindAt m.1 (j : Int) = x0 by simp [kindAt, List.getD, hx])
    have Hb5 := Lib.hid (Hb.out.alloc hsz (.cells #[.int .i64 x0, .int .i64 x1, .int .i64 x2] 66))
    have pd := blkS1 (HXd6.out.alloc (.cells #[.int .i64 x0, .int .i64 x1, .int .i64 x2] 66))
    clear hx
    obtain ⟨qa, HA⟩ : ∃ q, Hid (inR x0 0 3 = q) := ⟨_, Lib.hid rfl⟩
    obtain ⟨qb, HBq⟩ : ∃ q, Hid (inR x1 0 4 = q) := ⟨_, Lib.hid rfl⟩
    obtain ⟨qc, HC⟩ : ∃ q, Hid (inR x2 0 15 = q) := ⟨_, Lib.hid rfl⟩
    have He := Lib.hid (show sigB (x0, x1, x2) = (qa && (qb && (decide (x2 = 0) || (decide (x0 = 3) && qc)))) by simp only [sigB]; rw [HA.out, HBq.out, HC.out])
    cases qa with
    | false =>
     go_wp2_with fail
     refine (s_l01In x0 0 3 _).mono ?_
     rintro e w9 ⟨rfl, rfl⟩
     rw [HA.out]
     go_wp2_with fail
     go_ret
     exact ⟨ret_bool (by rw [Hmb.out]; unfold modB; rw [all_not Hx.out (by rw [He.out]; rfl)]; rfl), HB1.out.trans (Hb5.out.mono (by omega))⟩
    | true =>
     cases qb with
     | false =>
      go_wp2_with fail
      refine (s_l01In x0 0 3 _).mono ?_
      rintro e w9 ⟨rfl, rfl⟩
      rw [HA.out]
      go_wp2_with fail
      refine (s_l01In x1 0 4 _).mono ?_
      rintro e w9 ⟨rfl, rfl⟩
      rw [HBq.out]
      go_wp2_with fail
      go_ret
      exact ⟨ret_bool (by rw [Hmb.out]; unfold modB; rw [all_not Hx.out (by rw [He.out]; rfl)]; rfl), HB1.out.trans (Hb5.out.mono (by omega))⟩
     | true =>
      cases qc with
      | false =>
       have hx2 : ¬ x2 = 0 := by
        rintro rfl
        have h1 := HC.out
        simp [inR] at h1
       go_wp2_with fail
       refine (s_l01In x0 0 3 _).mono ?_
       rintro e w9 ⟨rfl, rfl⟩
       rw [HA.out]
       go_wp2_with fail
       refine (s_l01In x1 0 4 _).mono ?_
       rintro e w9 ⟨rfl, rfl⟩
       rw [HBq.out]
       go_wp2_with fail
       refine (s_l01In x2 0 15 _).mono ?_
       rintro e w9 ⟨rfl, rfl⟩
       rw [HC.out]
       go_wp2_with fail
       go_ret
       exact ⟨ret_bool (by rw [Hmb.out]; unfold modB; rw [all_not Hx.out (by rw [He.out, decide_eq_false hx2]; simp)]; rfl), HB1.out.trans (Hb5.out.mono (by omega))⟩
      | true =>
       by_cases hx2 : x2 = 0
       ·subst hx2
        have HeT := Lib.hid (show sigB (x0, x1, 0) = true by rw [He.out]; rfl)
        by_cases hx0 : x0 = 0
        ·have q0 : ((x0 : Int) != 0) = false := by simp; omega
         have H0 := Lib.hid hx0
         clear hx0
         go_wp2_with fail
         refine (s_l01In x0 0 3 _).mono ?_
         rintro e w9 ⟨rfl, rfl⟩
         rw [HA.out]
         go_wp2_with fail
         refine (s_l01In x1 0 4 _).mono ?_
         rintro e w9 ⟨rfl, rfl⟩
         rw [HBq.out]
         go_wp2_with fail
         refine (s_l01In 0 0 15 _).mono ?_
         rintro e w9 ⟨rfl, rfl⟩
         rw [HC.out]
         go_wp2_with fail
         go_roundw
         case rel => exact ⟨j + 1, by omega, by go_num, ⟨Lib.hid (by rw [Hs.out, Hok.1.out, HeT.out]; rfl), Lib.hid (by rw [range_succ_all, Hok.2.out]; unfold drvB1; rw [Hka.out, H0.out]; rfl)⟩, Hb5.out⟩
         case measure => simp [intOf]; omega
        ·have q0 : ((x0 : Int) != 0) = true := by simp; omega
         have Hdv := Lib.hid (drivenB_pos (inR_iff.1 HA.out) hx0)
         have HDD := Lib.hid (RDesign.keep (w' := wr.alloc (.cells #[.int .i64 x0, .int .i64 x1, .int .i64 0] 66)) (RDesign.under H.out hS HBw.out) (fun q hq => World.cell?_alloc_lt _ _ q (by have := hS _ hq; omega)))
         clear hx0
         go_wp2_with fail
         refine (s_l01In x0 0 3 _).mono ?_
         rintro e w9 ⟨rfl, rfl⟩
         rw [HA.out]
         go_wp2_with fail
         refine (s_l01In x1 0 4 _).mono ?_
         rintro e w9 ⟨rfl, rfl⟩
         rw [HBq.out]
         go_wp2_with fail
         refine (s_l01In 0 0 15 _).mono ?_
         rintro e w9 ⟨rfl, rfl⟩
         rw [HC.out]
         go_wp2_with fail
         refine (s_DriverCount (kn : Int) (j : Int) HDD.out (fun b hb => by have := hS b hb; simp; omega)).mono ?_
         rintro e w6 ⟨rfl, hb6⟩
         rw [Hdc.out j hlt]
         have Hb6 := Lib.hid (Hb5.out.trans (hb6.mono (by simp; omega)))
         obtain ⟨cd, hcd⟩ : ∃ cd, cd = drvN d m j := ⟨_, rfl⟩
         rw [← hcd]
         have Hcd := Lib.hid hcd
         clear hcd hb6 y0 y1 y2 y3 yd pd s0 s1 s2
         by_cases h1 : cd = 1
         ·subst h1
          go_wp2_with fail
          go_roundw
          case rel => exact ⟨j + 1, by omega, by go_num, ⟨Lib.hid (by rw [Hs.out, Hok.1.out, HeT.out]; rfl), Lib.hid (by rw [range_succ_all, Hok.2.out]; unfold drvB1; rw [← Hcd.out]; simp)⟩, Hb6.out⟩
          case measure => simp [intOf]; omega
         ·have qn : ((cd : Int) != 1) = true := by simp; omega
          have H1 := Lib.hid h1
          clear h1
          go_wp2_with fail
          go_ret
          exact ⟨ret_bool (by rw [Hmb.out]; unfold modB drvsB; rw [range_all (n := m.1.length) (k := j) (by have := Hn.out.1; omega) (by unfold drvB1; rw [Hka.out, Hdv.out, ← Hcd.out, decide_eq_false H1.out]; rfl)]; simp), HB1.out.trans (Hb6.out.mono (by omega))⟩
       ·have q2 : (x2 != 0) = true := by simpa using hx2
        have Hx2 := Lib.hid hx2
        clear hx2
        by_cases hx3 : x0 = 3
        ·have q3 : (x0 != 3) = false := by simp; omega
         have Hx3 := Lib.hid hx3
         clear hx3
         have HeT := Lib.hid (show sigB (x0, x1, x2) = true by rw [He.out]; (rw [decide_eq_true Hx3.out]; simp))
         by_cases hx0 : x0 = 0
         ·have q0 : ((x0 : Int) != 0) = false := by simp; omega
          have H0 := Lib.hid hx0
          clear hx0
          go_wp2_with fail
          refine (s_l01In x0 0 3 _).mono ?_
          rintro e w9 ⟨rfl, rfl⟩
          rw [HA.out]
          go_wp2_with fail
          refine (s_l01In x1 0 4 _).mono ?_
          rintro e w9 ⟨rfl, rfl⟩
          rw [HBq.out]
          go_wp2_with fail
          refine (s_l01In x2 0 15 _).mono ?_
          rintro e w9 ⟨rfl, rfl⟩
          rw [HC.out]
          go_wp2_with fail
          go_roundw
          case rel => exact ⟨j + 1, by omega, by go_num, ⟨Lib.hid (by rw [Hs.out, Hok.1.out, HeT.out]; rfl), Lib.hid (by rw [range_succ_all, Hok.2.out]; unfold drvB1; rw [Hka.out, H0.out]; rfl)⟩, Hb5.out⟩
          case measure => simp [intOf]; omega
         ·have q0 : ((x0 : Int) != 0) = true := by simp; omega
          have Hdv := Lib.hid (drivenB_pos (inR_iff.1 HA.out) hx0)
          have HDD := Lib.hid (RDesign.keep (w' := wr.alloc (.cells #[.int .i64 x0, .int .i64 x1, .int .i64 x2] 66)) (RDesign.under H.out hS HBw.out) (fun q hq => World.cell?_alloc_lt _ _ q (by have := hS _ hq; omega)))
          clear hx0
          go_wp2_with fail
          refine (s_l01In x0 0 3 _).mono ?_
          rintro e w9 ⟨rfl, rfl⟩
          rw [HA.out]
          go_wp2_with fail
          refine (s_l01In x1 0 4 _).mono ?_
          rintro e w9 ⟨rfl, rfl⟩
          rw [HBq.out]
          go_wp2_with fail
          refine (s_l01In x2 0 15 _).mono ?_
          rintro e w9 ⟨rfl, rfl⟩
          rw [HC.out]
          go_wp2_with fail
          refine (s_DriverCount (kn : Int) (j : Int) HDD.out (fun b hb => by have := hS b hb; simp; omega)).mono ?_
          rintro e w6 ⟨rfl, hb6⟩
          rw [Hdc.out j hlt]
          have Hb6 := Lib.hid (Hb5.out.trans (hb6.mono (by simp; omega)))
          obtain ⟨cd, hcd⟩ : ∃ cd, cd = drvN d m j := ⟨_, rfl⟩
          rw [← hcd]
          have Hcd := Lib.hid hcd
          clear hcd hb6 y0 y1 y2 y3 yd pd s0 s1 s2
          by_cases h1 : cd = 1
          ·subst h1
           go_wp2_with fail
           go_roundw
           case rel => exact ⟨j + 1, by omega, by go_num, ⟨Lib.hid (by rw [Hs.out, Hok.1.out, HeT.out]; rfl), Lib.hid (by rw [range_succ_all, Hok.2.out]; unfold drvB1; rw [← Hcd.out]; simp)⟩, Hb6.out⟩
           case measure => simp [intOf]; omega
          ·have qn : ((cd : Int) != 1) = true := by simp; omega
           have H1 := Lib.hid h1
           clear h1
           go_wp2_with fail
           go_ret
           exact ⟨ret_bool (by rw [Hmb.out]; unfold modB drvsB; rw [range_all (n := m.1.length) (k := j) (by have := Hn.out.1; omega) (by unfold drvB1; rw [Hka.out, Hdv.out, ← Hcd.out, decide_eq_false H1.out]; rfl)]; simp), HB1.out.trans (Hb6.out.mono (by omega))⟩
        ·have q3 : (x0 != 3) = true := by simpa using hx3
         have Hx3 := Lib.hid hx3
         clear hx3
         go_wp2_with fail
         refine (s_l01In x0 0 3 _).mono ?_
         rintro e w9 ⟨rfl, rfl⟩
         rw [HA.out]
         go_wp2_with fail
         refine (s_l01In x1 0 4 _).mono ?_
         rintro e w9 ⟨rfl, rfl⟩
         rw [HBq.out]
         go_wp2_with fail
         refine (s_l01In x2 0 15 _).mono ?_
         rintro e w9 ⟨rfl, rfl⟩
         rw [HC.out]
         go_wp2_with fail
         go_ret
         exact ⟨ret_bool (by rw [Hmb.out]; unfold modB; rw [all_not Hx.out (by rw [He.out, decide_eq_false Hx2.out, decide_eq_false Hx3.out]; rfl)]; rfl), HB1.out.trans (Hb5.out.mono (by omega))⟩
   ·have hge : (ns : Int) ≤ (j : Int) := by omega
    have hjn : j = ns := by omega
    have HA1 := Lib.hid (show m.1.all sigB = true by have h1 := Hok.1.out; rw [List.take_of_length_le (by have := Hn.out.1; omega)] at h1; exact h1)
    have HA5 := Lib.hid (show drvsB d m = true by unfold drvsB; rw [Hn.out.1, ← hjn]; exact Hok.2.out)
    clear hjn
    go_wp2_with fail
    clear y0 y1 y2 y3 yd hsz
    go_loopw [8, 9] (fun iv _ wr => ∃ j : Nat, j ≤ na ∧ iv = .int .i64 j ∧ Hid ((m.2.1.take j).all (asgB m.1) = true) ∧ Below W1.heap.size W1 wr) (fun iv _ _ => na - (intOf iv).toNat)
    case atStart => exact ⟨0, Nat.zero_le _, rfl, Lib.hid rfl, Hb.out⟩
    case round =>
     clear Hok Hb HBw HXd6 HXm6 g1 hge hlt
     obtain ⟨j, hj, rfl, Hok, hb⟩ := hrel
     have Hb := Lib.hid hb
     have hsz := hb.size
     have HBw := Lib.hid (HB1.out.trans (hb.mono (by omega)))
     have HXd6 := Lib.hid (HXd.out.below hb HXd.out.lt)
     have HXm6 := Lib.hid (HXm.out.below hb HXm.out.lt)
     obtain ⟨y0, y1, y2, y3⟩ := blkS4 HXm6.out
     have yd := blkS1 HXd6.out
     have g1 : (0 : Int) ≤ (j : Int) := by omega
     clear hb
     by_cases hlt : j < na
     ·obtain ⟨ad1, a, os, A1', c1', rfl, hab1, hx, hro, hom, t0, t1⟩ := asg_row (HAs1.out.under hSW Hb.out) hlt
      have g2 : (j : Int) < (na : Int) := by omega
      have Hx := Lib.hid hx
      have Hs := Lib.hid (all_take (p := asgB m.1) hx)
      have hol := Hopl.out _ (List.mem_of_getElem? hx)
      simp only at hol
      have Hro := Lib.hid hro
      have Has := Lib.hid (show asgB m.1 (a, os) = ((drivesB m.1 a || decide (kindOf m.1 a = 3)) && opsB os ns) by simp only [asgB]; rw [asg_driven, Hn.out.1, Bool.and_assoc])
      have HMM := Lib.hid (RModule.keep (RModule.under HRm1.out hSW Hb.out) (w' := wr.alloc (.cells #[.int .i64 a, .slice A1' os.length c1'] 71)) (fun q hq => World.cell?_alloc_lt _ _ q (by have := hS _ hq; omega)))
      obtain ⟨p0, p1, p2, p3⟩ := blkS4 (HXm6.out.alloc (.cells #[.int .i64 a, .slice A1' os.length c1'] 71))
      clear hx hro hom
      go_wp2_with fail
      refine (s_l04Driven (m := m) a HMM.out (fun b hb => by have := hS b hb; simp; omega)).mono ?_
      rintro e w6 ⟨rfl, hb6⟩
      have HW6 := Lib.hid (((Below.refl wr.heap.size wr).alloc (Nat.le_refl _) (.cells #[.int .i64 a, .slice A1' os.length c1'] 71)).trans (hb6.mono (by simp)))
      have HXa := Lib.hid ((Blk.new wr 71 #[.int .i64 a, .slice A1' os.length c1']).below hb6 (by simp))
      have HXm8 := Lib.hid ((HXm6.out.alloc (.cells #[.int .i64 a, .slice A1' os.length c1'] 71)).below hb6 (by have := HXm6.out.lt; simp; omega))
      have z6 : wr.heap.size ≤ w6.heap.size := HW6.out.size
      have HM6 := Lib.hid (RModule.under HMM.out (B := wr.heap.size) (fun b hb => by have := hS b hb; omega) (hb6.mono (by simp)))
      clear hb6 y0 y1 y2 y3 yd p0 p1 p2 p3 t0 t1
      obtain ⟨y0, y1, y2, y3⟩ := blkS4 HXm8.out
      obtain ⟨x0, x1⟩ := blkS2 HXa.out
      cases hqd : drivesB m.1 a with
      | true =>
       have Hqd := Lib.hid hqd
       clear hqd
       go_wp2_with fail
       refine (s_OpsOk (B := w.heap.size) (ns : Int) (Reads.below (Rep.to_reads eOp_len (by decide) (show Rep _ S _ (frecs eOp os) from Hro.out) hS) (HW6.out.mono (by omega))) (by omega) (by omega)).mono ?_
       rintro e w8 ⟨rfl, hb8⟩
       have Hb8 := Lib.hid (Hb.out.trans ((HW6.out.trans (hb8.mono HW6.out.size)).mono hsz))
       clear hb8
       cases hqo : opsB os (ns : Int) with
       | false =>
        have Hqo := Lib.hid hqo
        clear hqo
        go_wp2_with fail
        go_ret
        exact ⟨ret_bool (by rw [Hmb.out]; unfold modB; rw [all_not Hx.out (by rw [Has.out, Hqo.out, Bool.and_false])]; simp), HB1.out.trans (Hb8.out.mono (by omega))⟩
       | true =>
        have Hqo := Lib.hid hqo
        clear hqo
        go_wp2_with fail
        go_roundw
        case rel => exact ⟨j + 1, by omega, by go_num, Lib.hid (by rw [Hs.out, Hok.out, Has.out, Hqo.out, Hqd.out]; simp), Hb8.out⟩
        case measure => simp [intOf]; omega
      | false =>
       have Hqd := Lib.hid hqd
       clear hqd
       go_wp2_with fail
       refine (s_l04Kind (m := m) a HM6.out (fun b hb => by have := hS b hb; omega)).mono ?_
       rintro e w7 ⟨rfl, hb7⟩
       have HW7 := Lib.hid (HW6.out.trans (hb7.mono z6))
       have HXa7 := Lib.hid (HXa.out.below hb7 HXa.out.lt)
       have HXm7 := Lib.hid (HXm8.out.below hb7 HXm8.out.lt)
       have z7 := hb7.size
       clear hb7 y0 y1 y2 y3 x0 x1
       obtain ⟨y0, y1, y2, y3⟩ := blkS4 HXm7.out
       obtain ⟨x0, x1⟩ := blkS2 HXa7.out
       obtain ⟨kd, hkd⟩ : ∃ kd, kd = kindOf m.1 a := ⟨_, rfl⟩
       rw [← hkd] at Has ⊢
       clear hkd
       by_cases hk3 : kd = 3
       ·subst hk3
        go_wp2_with fail
        refine (s_OpsOk (B := w.heap.size) (ns : Int) (Reads.below (Rep.to_reads eOp_len (by decide) (show Rep _ S _ (frecs eOp os) from Hro.out) hS) (HW7.out.mono (by omega))) (by omega) (by omega)).mono ?_
        rintro e w8 ⟨rfl, hb8⟩
        have Hb8 := Lib.hid (Hb.out.trans ((HW7.out.trans (hb8.mono HW7.out.size)).mono hsz))
        clear hb8
        cases hqo : opsB os (ns : Int) with
        | false =>
         have Hqo := Lib.hid hqo
         clear hqo
         go_wp2_with fail
         go_ret
         exact ⟨ret_bool (by rw [Hmb.out]; unfold modB; rw [all_not Hx.out (by rw [Has.out, Hqo.out, Bool.and_false])]; simp), HB1.out.trans (Hb8.out.mono (by omega))⟩
        | true =>
         have Hqo := Lib.hid hqo
         clear hqo
         go_wp2_with fail
         go_roundw
         case rel => exact ⟨j + 1, by omega, by go_num, Lib.hid (by rw [Hs.out, Hok.out, Has.out, Hqo.out, Hqd.out]; simp), Hb8.out⟩
         case measure => simp [intOf]; omega
       ·have q3 : (kd != 3) = true := by simpa using hk3
        have Hk3 := Lib.hid hk3
        clear hk3
        go_wp2_with fail
        go_ret
        exact ⟨ret_bool (by rw [Hmb.out]; unfold modB; rw [all_not Hx.out (by rw [Has.out, Hqd.out, decide_eq_false Hk3.out]; rfl)]; simp), HBw.out.trans (HW7.out.mono (by omega))⟩
     ·have hge : (na : Int) ≤ (j : Int) := by omega
      have hjn : j = na := by omega
      have HA2 := Lib.hid (show m.2.1.all (asgB m.1) = true by have h1 := Hok.out; rw [List.take_of_length_le (by have := Hn.out.2.1; omega)] at h1; exact h1)
      clear hjn
      go_wp2_with fail
      clear y0 y1 y2 y3 yd hsz
      go_loopw [10, 11, 12, 13, 14] (fun iv _ _ _ _ wr => ∃ j : Nat, j ≤ ni ∧ iv = .int .i64 j ∧ Hid ((m.2.2.1.take j).all (instB d m) = true) ∧ Below W1.heap.size W1 wr) (fun iv _ _ _ _ _ => ni - (intOf iv).toNat)
      case atStart => exact ⟨0, Nat.zero_le _, rfl, Lib.hid rfl, Hb.out⟩
      case round =>
       clear Hok Hb HBw HXd6 HXm6 g1 hge hlt
       obtain ⟨j, hj, rfl, Hok, hb⟩ := hrel
       have Hb := Lib.hid hb
       have hsz := hb.size
       have HBw := Lib.hid (HB1.out.trans (hb.mono (by omega)))
       have HXd6 := Lib.hid (HXd.out.below hb HXd.out.lt)
       have HXm6 := Lib.hid (HXm.out.below hb HXm.out.lt)
       obtain ⟨y0, y1, y2, y3⟩ := blkS4 HXm6.out
       have yd := blkS1 HXd6.out
       have g1 : (0 : Int) ≤ (j : Int) := by omega
       clear hb
       by_cases hlt : j < ni
       ·obtain ⟨ad2, a, pr, ps, A2', c2', rfl, hab2, hx, hrp, hpm, t0, t1, t2⟩ := ins_row (HIn1.out.under hSW Hb.out) hlt
        have g2 : (j : Int) < (ni : Int) := by omega
        have hib3 : insB d kn (a, pr, ps) = true := List.all_eq_true.1 HibM.out _ (List.mem_of_getElem? hx)
        simp only [insB, Bool.and_eq_true, decide_eq_true_eq] at hib3
        obtain ⟨hia, hipl⟩ := hib3
        have hq1 := (inR_iff.1 hia).1
        have hq2 := (inR_iff.1 hia).2
        obtain ⟨p, rfl⟩ := Int.eq_ofNat_of_zero_le hq1
        have hpn : p < n := by omega
        have g3 : (p : Int) < (n : Int) := by omega
        have g4 : (0 : Int) ≤ (p : Int) := by omega
        have Hx := Lib.hid hx
        have Hs := Lib.hid (all_take (p := instB d m) hx)
        have HBx := Lib.hid (HBw.out.alloc (by omega) (.cells #[.int .i64 p, .int .i64 pr, .slice A2' ps.length c2'] 78))
        obtain ⟨ad3, m', D0, u0, D1, u1, D2, u2, D3, u3, hAe, hab4, hx', hRm', hml', r0, r1, r2, r3⟩ := mod_row ((HR.out.under hS HBx.out)) hpn
        obtain rfl : ad = ad3 := by injection hAe
        have hmd' := md_get hx'
        rw [hmd'] at hipl
        have Hmd' := Lib.hid hmd'
        have hms := hml'.1
        unfold maxLen at hms hpm
        obtain ⟨_, _, _, _, _, _, _, _, hae', hSg', _⟩ := mod_open hRm'
        simp only [Value.agg.injEq, Array.mk.injEq, List.cons.injEq, Value.slice.injEq, true_and, and_true] at hae'
        obtain ⟨⟨rfl, rfl⟩, -, -, -⟩ := hae'
        have HRx := Lib.hid hRm'
        obtain ⟨P, hP⟩ : ∃ P, P = portsM m' := ⟨_, rfl⟩
        have hPl : P.length ≤ 30 := by rw [hP]; exact portsL_len _
        rw [← hP] at hipl
        have HP := Lib.hid hP
        have Hipl := Lib.hid hipl
        have HSx := Lib.hid hSg'
        have Hps := Lib.hid hrp
        have pd := blkS1 (HXd6.out.alloc (.cells #[.int .i64 p, .int .i64 pr, .slice A2' ps.length c2'] 78))
        clear hx hrp hia hipl hq1 hq2 hAe hx' hRm' hml' hmd' hP hSg'
        go_wp2_with fail
        refine (s_PortsOf (RModule.keep HRx.out (fun q hq => World.cell?_alloc_lt _ _ q (by have := hS _ hq; simp; omega))) (fun b hb => by have := hS b hb; (try simp) <;> omega)).mono ?_
        rintro e W5 ⟨v', rfl, hq8, hb8⟩
        rw [← HP.out] at hq8
        obtain ⟨A8, c8, rfl, hP8, _⟩ := sl_form hq8.rep (List.length_map _)
        have z5 : wr.heap.size + 1 + 1 ≤ W5.heap.size := by have h1 := hb8.size; simpa using h1
        have HP8 := Lib.hid (hP8.mono (S' := fun b => b < W5.heap.size) (fun b hb => hb.2))
        have HXm5 := Lib.hid (((HXm6.out.alloc (.cells #[.int .i64 p, .int .i64 pr, .slice A2' ps.length c2'] 78)).alloc (.cells #[.slice D0 m'.1.length u0, .slice D1 m'.2.1.length u1, .slice D2 m'.2.2.1.length u2, .slice D3 m'.2.2.2.length u3] 42)).below hb8 (by have := HXm6.out.lt; simp; omega))
        have HXi5 := Lib.hid (((Blk.new wr 78 #[.int .i64 p, .int .i64 pr, .slice A2' ps.length c2']).alloc (.cells #[.slice D0 m'.1.length u0, .slice D1 m'.2.1.length u1, .slice D2 m'.2.2.1.length u2, .slice D3 m'.2.2.2.length u3] 42)).below hb8 (by simp; omega))
        have HXn5 := Lib.hid (Blk.below (blk_new_at (g := wr.heap.size + 1) (t := 42) (cs := #[.slice D0 m'.1.length u0, .slice D1 m'.2.1.length u1, .slice D2 m'.2.2.1.length u2, .slice D3 m'.2.2.2.length u3]) (by simp)) hb8 (by simp))
        have HB5 := Lib.hid (((Hb.out.alloc hsz (.cells #[.int .i64 p, .int .i64 pr, .slice A2' ps.length c2'] 78)).alloc (by simp; omega) (.cells #[.slice D0 m'.1.length u0, .slice D1 m'.2.1.length u1, .slice D2 m'.2.2.1.length u2, .slice D3 m'.2.2.2.length u3] 42)).trans (hb8.mono (by simp; omega)))
        have HBw5 := Lib.hid (HB1.out.trans (HB5.out.mono (by omega)))
        have HSg5 := Lib.hid (Rep.keep (w' := W5) HSx.out (fun q hq => (hb8.cell (by have := hS _ hq; simp; omega)).trans (World.cell?_alloc_lt _ _ q (by have := hS _ hq; simp; omega))))
        have Hrp5 := Lib.hid (Rep.keep (w' := W5) Hps.out (fun q hq => (hb8.cell (by have := hS _ hq; simp; omega)).trans ((World.cell?_alloc_lt _ _ q (by have := hS _ hq; simp; omega)).trans (World.cell?_alloc_lt _ _ q (by have := hS _ hq; omega)))))
        clear hq8 hP8 hb8 y0 y1 y2 y3 yd pd t0 t1 t2 r0 r1 r2 r3
        obtain ⟨np, hnp⟩ : ∃ np, P.length = np := ⟨_, rfl⟩
        rw [hnp] at HP8 hPl ⊢
        have Hnp := Lib.hid hnp
        clear hnp
        obtain ⟨x0, x1, x2⟩ := (show _ ∧ _ ∧ _ from ⟨HXi5.out.cell 0, HXi5.out.cell 1, HXi5.out.cell 2⟩)
        simp only [List.getElem?_toArray, List.getElem?_cons_zero, List.getElem?_cons_succ] at x0 x1 x2
        cases hq4 : inR pr 0 4 with
        | false =>
         have Hq4 := Lib.hid hq4
         clear hq4
         go_wp2_with fail
         refine (s_l01In pr 0 4 _).mono ?_
         rintro e w9 ⟨rfl, rfl⟩
         rw [Hq4.out]
         go_wp2_with fail
         go_ret
         exact ⟨ret_bool (by rw [Hmb.out]; unfold modB; rw [all_not Hx.out (by simp only [instB]; rw [Hq4.out]; rfl)]; simp), HBw5.out⟩
        | true =>
         have Hq4 := Lib.hid hq4
         clear hq4
         go_wp2_with fail
         refine (s_l01In pr 0 4 _).mono ?_
         rintro e w9 ⟨rfl, rfl⟩
         rw [Hq4.out]
         go_wp2_with fail
         go_loopw [14] (fun iv wz => ∃ q : Nat, q ≤ np ∧ iv = .int .i64 q ∧ Hid (((P.zip ps).take q).all (ptB m.1 m'.1) = true) ∧ Below W5.heap.size W5 wz) (fun iv _ => np - (intOf iv).toNat)
         case atStart => exact ⟨0, Nat.zero_le _, rfl, Lib.hid rfl, Below.refl _ _⟩
         case round =>
          clear x0 x1 x2
          obtain ⟨q, hq, rfl, Hok2, hb4⟩ := hrel
          have Hb4 := Lib.hid hb4
          have z6 := hb4.size
          have HB6 := Lib.hid (HBw5.out.trans (hb4.mono (by omega)))
          have HXm9 := Lib.hid (HXm5.out.below hb4 HXm5.out.lt)
          have HXi6 := Lib.hid (HXi5.out.below hb4 HXi5.out.lt)
          have HXn6 := Lib.hid (HXn5.out.below hb4 HXn5.out.lt)
          have HRm6 := Lib.hid (RModule.under HRm1.out hSW (HB5.out.trans (hb4.mono HB5.out.size)))
          have HS6 := Lib.hid (RModule.under (x := m) HRm1.out hSW (HB5.out.trans (hb4.mono HB5.out.size)))
          have HW6 := Lib.hid (HB5.out.trans (hb4.mono HB5.out.size))
          clear hb4
          by_cases hlt4 : q < np
          ·obtain ⟨ad8, y, rfl, hab8, hy, cP⟩ := fIntS_row (Rep.under HP8.out (fun _ h => h) Hb4.out) hlt4
           obtain ⟨ix, sy, rfl, hsy⟩ := ports_mem (m := m') (by rw [← HP.out]; exact hy)
           have hil := (List.getElem?_eq_some_iff.1 hsy).1
           have hS5 : ∀ b, S b → b < W5.heap.size := fun b hb => by have := hS b hb; omega
           obtain ⟨ad9, x0, x1, x2, rfl, hab9, hx9, s0, s1, s2⟩ := fSignalS_row (HSg5.out.under hS5 Hb4.out) hil
           obtain ⟨ad7, zz, rfl, hab7, hz7, cz⟩ := fIntS_row (Hrp5.out.under hS5 Hb4.out) (show q < ps.length by rw [Hipl.out, Hnp.out]; exact hlt4)
           have hzip : (P.zip ps)[q]? = some ((ix : Int), zz) := List.getElem?_zip_eq_some.2 ⟨hy, hz7⟩
           have Hzip := Lib.hid hzip
           have Hsp := Lib.hid (all_take (p := ptB m.1 m'.1) hzip)
           have Hka := Lib.hid (show kindAt m'.1 (ix : Int) = x0 by simp [kindAt, List.getD, hx9])
           have Hpt := Lib.hid (show ptB m.1 m'.1 ((ix : Int), zz) = (inR zz 0 ((ns : Int) - 1) && (!decide (x0 = 1) || drivesB m.1 zz)) by simp only [ptB]; rw [Hn.out.1, Hka.out])
           have hbP : ad8.block < wr.heap.size := by omega
           have hbs : ad9.block < wr.heap.size := by have := hS _ hab9; omega
           have hbz : ad7.block < wr.heap.size := by have := hS _ hab7; omega
           have g27 : (0 : Int) ≤ (q : Int) := by omega
           have g28 : (q : Int) < (np : Int) := by omega
           have g29 : (0 : Int) ≤ (ix : Int) := by omega
           have g20 : (ix : Int) < (m'.1.length : Int) := by omega
           have g21 : (q : Int) < (ps.length : Int) := by have := Hipl.out; have := Hnp.out; omega
           have hkn := kindOf_neg HA1.out zz
           rw [Hn.out.1] at hkn
           obtain ⟨kz, hkz⟩ : ∃ kz, kz = kindOf m.1 zz := ⟨_, rfl⟩
           rw [← hkz] at hkn
           have Hkz := Lib.hid hkz
           clear hy hsy hx9 hz7 hzip hkz
           cases hq : inR zz 0 ((ns : Int) - 1) with
           | false =>
            have hk0 : kz < 0 := by rw [hq] at hkn; simpa using hkn
            have Hq := Lib.hid hq
            clear hq hkn
            go_wp2_with fail
            refine wp_region_lexC (by kernel_rfl) (by kernel_rfl) (fun x => Below wr.heap.size wr x) ((Below.refl _ _).drew) (fun lexNE => ?_)
            obtain ⟨ci0, ci1, ci2⟩ := bwS3 HXi6.out HXi6.out.lt
            obtain ⟨cm0, cm1, cm2, cm3⟩ := bwS4 HXm9.out HXm9.out.lt
            obtain ⟨cn0, cn1, cn2, cn3⟩ := bwS4 HXn6.out HXn6.out.lt
            have dz := wcell cz (by rw [block_of_add]; exact hbz)
            have ds := wcell s0 (by rw [block_of_add]; exact hbs)
            have dP := wcell cP (by rw [block_of_add]; exact hbP)
            (repeat (first | (refine lex_r fun K hK => ?_; go_big_quiet_op; refine hK _ ?_; clear hK K) | (refine lex_k fun K hK => ?_; go_simp; refine hK _ ?_; clear hK K)))
            (refine lex_e fun K hK => ?_; go_big_op)
            refine (s_l04Kind (m := m) zz (RModule.keep (w' := wr.drew) HRm6.out (fun _ _ => rfl)) (fun b hb => by have := hS b hb; show b < wr.heap.size; omega)).mono ?_
            rintro e w9 ⟨rfl, hb9⟩
            rw [← Hkz.out]
            have H9 := Lib.hid ((Below.refl wr.heap.size wr).drew.trans hb9)
            refine hK _ _ (Cls.mk' H9.out) ?_
            clear hK K hb9
            (repeat (first | (refine lex_r fun K hK => ?_; go_big_quiet_op; refine hK _ ?_; clear hK K) | (refine lex_k fun K hK => ?_; go_simp; refine hK _ ?_; clear hK K)))
            (repeat (first | (refine lex_skip' (by exact unwanted_u rfl rfl rfl) (fun K hK => ?_); go_simp; refine hK _ ?_; clear hK K)))
            (repeat (first | (refine lex_r fun K hK => ?_; go_big_quiet_op; refine hK _ ?_; clear hK K) | (refine lex_k fun K hK => ?_; go_simp; refine hK _ ?_; clear hK K)))
            (refine lex_nil ?_)
            clear lexNE ci0 ci1 ci2 cm0 cm1 cm2 cm3 cn0 cn1 cn2 cn3 dz ds dP
            go_wp2_with fail
            go_ret
            exact ⟨ret_bool (by rw [Hmb.out]; unfold modB; rw [all_not Hx.out (by simp only [instB]; rw [Hmd'.out, ← HP.out, all_not Hzip.out (by rw [Hpt.out, Hq.out]; rfl), Bool.and_false])]; simp), HB6.out.trans (H9.out.mono (by omega))⟩
           | true =>
            have hk0 : 0 ≤ kz := by rw [hq] at hkn; simpa using hkn
            obtain ⟨kzn, rfl⟩ := Int.eq_ofNat_of_zero_le hk0
            have qk0 : decide ((kzn : Int) < 0) = false := by simp
            have Hq := Lib.hid hq
            clear hq hkn
            by_cases hk1 : x0 = 1
            ·subst hk1
             cases hdr : drivesB m.1 zz with
             | false =>
              have Hdr := Lib.hid hdr
              clear hdr
              go_wp2_with fail
              refine wp_region_lexC (by kernel_rfl) (by kernel_rfl) (fun x => Below wr.heap.size wr x) ((Below.refl _ _).drew) (fun lexNE => ?_)
              obtain ⟨ci0, ci1, ci2⟩ := bwS3 HXi6.out HXi6.out.lt
              obtain ⟨cm0, cm1, cm2, cm3⟩ := bwS4 HXm9.out HXm9.out.lt
              obtain ⟨cn0, cn1, cn2, cn3⟩ := bwS4 HXn6.out HXn6.out.lt
              have dz := wcell cz (by rw [block_of_add]; exact hbz)
              have ds := wcell s0 (by rw [block_of_add]; exact hbs)
              have dP := wcell cP (by rw [block_of_add]; exact hbP)
              (repeat (first | (refine lex_r fun K hK => ?_; go_big_quiet_op; refine hK _ ?_; clear hK K) | (refine lex_k fun K hK => ?_; go_simp; refine hK _ ?_; clear hK K)))
              (refine lex_e fun K hK => ?_; go_big_op)
              refine (s_l04Kind (m := m) zz (RModule.keep (w' := wr.drew) HRm6.out (fun _ _ => rfl)) (fun b hb => by have := hS b hb; show b < wr.heap.size; omega)).mono ?_
              rintro e w9 ⟨rfl, hb9⟩
              rw [← Hkz.out]
              have H9 := Lib.hid ((Below.refl wr.heap.size wr).drew.trans hb9)
              refine hK _ _ (Cls.mk' H9.out) ?_
              clear hK K hb9
              (repeat (first | (refine lex_r fun K hK => ?_; go_big_quiet_op; refine hK _ ?_; clear hK K) | (refine lex_k fun K hK => ?_; go_simp; refine hK _ ?_; clear hK K)))
              (refine lex_e fun K hK => ?_; go_big_op)
              refine (s_l04Driven (m := m) zz (RModule.under HRm6.out (B := wr.heap.size) (fun b hb => by have := hS b hb; omega) H9.out) (fun b hb => by have := hS b hb; have := H9.out.size; omega)).mono ?_
              rintro e w8 ⟨rfl, hb8⟩
              rw [Hdr.out]
              have H8 := Lib.hid (H9.out.trans (hb8.mono H9.out.size))
              refine hK _ _ (Cls.mk' H8.out) ?_
              clear hK K hb8
              (repeat (first | (refine lex_r fun K hK => ?_; go_big_quiet_op; refine hK _ ?_; clear hK K) | (refine lex_k fun K hK => ?_; go_simp; refine hK _ ?_; clear hK K)))
              (refine lex_nil ?_)
              clear lexNE ci0 ci1 ci2 cm0 cm1 cm2 cm3 cn0 cn1 cn2 cn3 dz ds dP
              go_wp2_with fail
              go_ret
              exact ⟨ret_bool (by rw [Hmb.out]; unfold modB; rw [all_not Hx.out (by simp only [instB]; rw [Hmd'.out, ← HP.out, all_not Hzip.out (by rw [Hpt.out, Hq.out, Hdr.out]; rfl), Bool.and_false])]; simp), HB6.out.trans (H8.out.mono (by omega))⟩
             | true =>
              have Hdr := Lib.hid hdr
              clear hdr
              go_wp2_with fail
              refine wp_region_lexC (by kernel_rfl) (by kernel_rfl) (fun x => Below wr.heap.size wr x) ((Below.refl _ _).drew) (fun lexNE => ?_)
              obtain ⟨ci0, ci1, ci2⟩ := bwS3 HXi6.out HXi6.out.lt
              obtain ⟨cm0, cm1, cm2, cm3⟩ := bwS4 HXm9.out HXm9.out.lt
              obtain ⟨cn0, cn1, cn2, cn3⟩ := bwS4 HXn6.out HXn6.out.lt
              have dz := wcell cz (by rw [block_of_add]; exact hbz)
              have ds := wcell s0 (by rw [block_of_add]; exact hbs)
              have dP := wcell cP (by rw [block_of_add]; exact hbP)
              (repeat (first | (refine lex_r fun K hK => ?_; go_big_quiet_op; refine hK _ ?_; clear hK K) | (refine lex_k fun K hK => ?_; go_simp; refine hK _ ?_; clear hK K)))
              (refine lex_e fun K hK => ?_; go_big_op)
              refine (s_l04Kind (m := m) zz (RModule.keep (w' := wr.drew) HRm6.out (fun _ _ => rfl)) (fun b hb => by have := hS b hb; show b < wr.heap.size; omega)).mono ?_
              rintro e w9 ⟨rfl, hb9⟩
              rw [← Hkz.out]
              have H9 := Lib.hid ((Below.refl wr.heap.size wr).drew.trans hb9)
              refine hK _ _ (Cls.mk' H9.out) ?_
              clear hK K hb9
              (repeat (first | (refine lex_r fun K hK => ?_; go_big_quiet_op; refine hK _ ?_; clear hK K) | (refine lex_k fun K hK => ?_; go_simp; refine hK _ ?_; clear hK K)))
              (refine lex_e fun K hK => ?_; go_big_op)
              refine (s_l04Driven (m := m) zz (RModule.under HRm6.out (B := wr.heap.size) (fun b hb => by have := hS b hb; omega) H9.out) (fun b hb => by have := hS b hb; have := H9.out.size; omega)).mono ?_
              rintro e w8 ⟨rfl, hb8⟩
              rw [Hdr.out]
              have H8 := Lib.hid (H9.out.trans (hb8.mono H9.out.size))
              refine hK _ _ (Cls.mk' H8.out) ?_
              clear hK K hb8
              (repeat (first | (refine lex_r fun K hK => ?_; go_big_quiet_op; refine hK _ ?_; clear hK K) | (refine lex_k fun K hK => ?_; go_simp; refine hK _ ?_; clear hK K)))
              (refine lex_nil ?_)
              clear lexNE ci0 ci1 ci2 cm0 cm1 cm2 cm3 cn0 cn1 cn2 cn3 dz ds dP
              go_wp2_with fail
              go_roundw
              case rel => exact ⟨q + 1, by omega, by go_num, Lib.hid (by rw [Hsp.out, Hok2.out, Hpt.out, Hq.out, Hdr.out]; rfl), Hb4.out.trans (H8.out.mono (by omega))⟩
              case measure => simp [intOf]; omega
            ·have qz : (x0 == 1) = false := by simpa using hk1
             have Hk1 := Lib.hid hk1
             clear hk1
             go_wp2_with fail
             refine wp_region_lexC (by kernel_rfl) (by kernel_rfl) (fun x => Below wr.heap.size wr x) ((Below.refl _ _).drew) (fun lexNE => ?_)
             obtain ⟨ci0, ci1, ci2⟩ := bwS3 HXi6.out HXi6.out.lt
             obtain ⟨cm0, cm1, cm2, cm3⟩ := bwS4 HXm9.out HXm9.out.lt
             obtain ⟨cn0, cn1, cn2, cn3⟩ := bwS4 HXn6.out HXn6.out.lt
             have dz := wcell cz (by rw [block_of_add]; exact hbz)
             have ds := wcell s0 (by rw [block_of_add]; exact hbs)
             have dP := wcell cP (by rw [block_of_add]; exact hbP)
             (repeat (first | (refine lex_r fun K hK => ?_; go_big_quiet_op; refine hK _ ?_; clear hK K) | (refine lex_k fun K hK => ?_; go_simp; refine hK _ ?_; clear hK K)))
             (refine lex_e fun K hK => ?_; go_big_op)
             refine (s_l04Kind (m := m) zz (RModule.keep (w' := wr.drew) HRm6.out (fun _ _ => rfl)) (fun b hb => by have := hS b hb; show b < wr.heap.size; omega)).mono ?_
             rintro e w9 ⟨rfl, hb9⟩
             rw [← Hkz.out]
             have H9 := Lib.hid ((Below.refl wr.heap.size wr).drew.trans hb9)
             refine hK _ _ (Cls.mk' H9.out) ?_
             clear hK K hb9
             (repeat (first | (refine lex_r fun K hK => ?_; go_big_quiet_op; refine hK _ ?_; clear hK K) | (refine lex_k fun K hK => ?_; go_simp; refine hK _ ?_; clear hK K)))
             (refine lex_nil ?_)
             clear lexNE ci0 ci1 ci2 cm0 cm1 cm2 cm3 cn0 cn1 cn2 cn3 dz ds dP
             go_wp2_with fail
             go_roundw
             case rel => exact ⟨q + 1, by omega, by go_num, Lib.hid (by rw [Hsp.out, Hok2.out, Hpt.out, Hq.out, decide_eq_false Hk1.out]; rfl), Hb4.out.trans (H9.out.mono (by omega))⟩
             case measure => simp [intOf]; omega
          ·have hge4 : (np : Int) ≤ (q : Int) := by omega
           have hqn : q = np := by omega
           have He := Lib.hid (show instB d m ((p : Int), pr, ps) = true by
            have h1 := Hok2.out
            rw [List.take_of_length_le (l := P.zip ps) (by rw [List.length_zip]; have := Hnp.out; omega)] at h1
            simp only [instB]
            rw [Hmd'.out, ← HP.out, h1, Hq4.out]
            rfl)
           clear hqn
           go_wp2_with fail
           go_roundw
           case rel => exact ⟨j + 1, by omega, by go_num, Lib.hid (by rw [Hs.out, Hok.out, He.out]; rfl), HW6.out⟩
           case measure => simp [intOf]; omega
       ·have hge : (ni : Int) ≤ (j : Int) := by omega
        have hjn : j = ni := by omega
        have HA3 := Lib.hid (show m.2.2.1.all (instB d m) = true by have h1 := Hok.out; rw [List.take_of_length_le (by have := Hn.out.2.2.1; omega)] at h1; exact h1)
        clear hjn
        go_wp2_with fail
        clear y0 y1 y2 y3 yd hsz
        go_loopw [15, 16] (fun iv _ wr => ∃ j : Nat, j ≤ nm ∧ iv = .int .i64 j ∧ Hid ((m.2.2.2.take j).all (memB m.1) = true) ∧ Below W1.heap.size W1 wr) (fun iv _ _ => nm - (intOf iv).toNat)
        case atStart => exact ⟨0, Nat.zero_le _, rfl, Lib.hid rfl, Hb.out⟩
        case round =>
         clear Hok Hb HBw HXd6 HXm6 g1 hge hlt
         obtain ⟨j, hj, rfl, Hok, hb⟩ := hrel
         have Hb := Lib.hid hb
         have hsz := hb.size
         have HBw := Lib.hid (HB1.out.trans (hb.mono (by omega)))
         have HXd6 := Lib.hid (HXd.out.below hb HXd.out.lt)
         have HXm6 := Lib.hid (HXm.out.below hb HXm.out.lt)
         obtain ⟨y0, y1, y2, y3⟩ := blkS4 HXm6.out
         have yd := blkS1 HXd6.out
         have g1 : (0 : Int) ≤ (j : Int) := by omega
         clear hb
         by_cases hlt : j < nm
         ·obtain ⟨ad2, m0, m1, m2, m3, rfl, hab2, hx, t0, t1, t2, t3⟩ := fMemS_row (HMe1.out.under hSW Hb.out) hlt
          have g2 : (j : Int) < (nm : Int) := by omega
          have Hx := Lib.hid hx
          have Hs := Lib.hid (all_take (p := memB m.1) hx)
          have Has := Lib.hid (show memB m.1 (m0, m1, m2, m3) = (inR m0 0 ((ns : Int) - 1) && (inR m1 0 ((ns : Int) - 1) && (inR m2 0 ((ns : Int) - 1) && drivesB m.1 m3))) by simp only [memB]; rw [Hn.out.1])
          have HRs := Lib.hid (RModule.keep (RModule.under HRm1.out hSW Hb.out) (w' := wr.alloc (.cells #[.int .i64 m0, .int .i64 m1, .int .i64 m2, .int .i64 m3] 80)) (fun q hq => World.cell?_alloc_lt _ _ q (by have := hS _ hq; omega)))
          have HMs := Lib.hid (HXm6.out.alloc (.cells #[.int .i64 m0, .int .i64 m1, .int .i64 m2, .int .i64 m3] 80))
          have HXs := Lib.hid (Blk.new wr 80 #[.int .i64 m0, .int .i64 m1, .int .i64 m2, .int .i64 m3])
          have HWs := Lib.hid ((Below.refl wr.heap.size wr).alloc (Nat.le_refl _) (.cells #[.int .i64 m0, .int .i64 m1, .int .i64 m2, .int .i64 m3] 80))
          obtain ⟨x0, x1, x2, x3⟩ := blkS4 HMs.out
          clear hx
          go_wp2_with fail
          refine (s_l04Kind (m := m) m0 HRs.out (fun b hb => by have := hS b hb; have := HWs.out.size; omega)).mono ?_
          rintro e w11 ⟨rfl, hbq⟩
          have HW11 := Lib.hid (HWs.out.trans (hbq.mono HWs.out.size))
          have HX11 := Lib.hid (HXs.out.below hbq HXs.out.lt)
          have HM11 := Lib.hid (HMs.out.below hbq HMs.out.lt)
          have HR11 := Lib.hid (RModule.under HRs.out (fun b hb => by have := hS b hb; have := HWs.out.size; omega) hbq)
          clear hbq y0 y1 y2 y3 x0 x1 x2 x3
          obtain ⟨y0, y1, y2, y3⟩ := blkS4 HM11.out
          obtain ⟨x0, x1, x2, x3⟩ := blkS4 HX11.out
          obtain ⟨kz, hkz⟩ : ∃ kz, kz = kindOf m.1 m0 := ⟨_, rfl⟩
          have hkn := kindOf_neg HA1.out m0
          rw [Hn.out.1, ← hkz] at hkn
          rw [← hkz]
          clear hkz
          clear t0 t1 t2 t3
          cases hq : inR m0 0 ((ns : Int) - 1) with
          | false =>
           have hk0 : kz < 0 := by rw [hq] at hkn; simpa using hkn
           have Hq := Lib.hid hq
           clear hq hkn
           go_wp2_with fail
           go_ret
           exact ⟨ret_bool (by rw [Hmb.out]; unfold modB; rw [all_not Hx.out (by rw [Has.out, Hq.out]; rfl)]; simp), HBw.out.trans (HW11.out.mono (by omega))⟩
          | true =>
           have hk0 : 0 ≤ kz := by rw [hq] at hkn; simpa using hkn
           obtain ⟨kzn, rfl⟩ := Int.eq_ofNat_of_zero_le hk0
           have qk0 : decide ((kzn : Int) < 0) = false := by simp
           have H0 := Lib.hid hq
           clear hq hkn hk0
           go_wp2_with fail
           refine (s_l04Kind (m := m) m1 HR11.out (fun b hb => by have := hS b hb; have := HW11.out.size; omega)).mono ?_
           rintro e w12 ⟨rfl, hbq⟩
           have HW12 := Lib.hid (HW11.out.trans (hbq.mono HW11.out.size))
           have HX12 := Lib.hid (HX11.out.below hbq HX11.out.lt)
           have HM12 := Lib.hid (HM11.out.below hbq HM11.out.lt)
           have HR12 := Lib.hid (RModule.under HR11.out (fun b hb => by have := hS b hb; have := HW11.out.size; omega) hbq)
           clear hbq y0 y1 y2 y3 x0 x1 x2 x3
           obtain ⟨y0, y1, y2, y3⟩ := blkS4 HM12.out
           obtain ⟨x0, x1, x2, x3⟩ := blkS4 HX12.out
           obtain ⟨kz, hkz⟩ : ∃ kz, kz = kindOf m.1 m1 := ⟨_, rfl⟩
           have hkn := kindOf_neg HA1.out m1
           rw [Hn.out.1, ← hkz] at hkn
           rw [← hkz]
           clear hkz
           cases hq : inR m1 0 ((ns : Int) - 1) with
           | false =>
            have hk0 : kz < 0 := by rw [hq] at hkn; simpa using hkn
            have Hq := Lib.hid hq
            clear hq hkn
            go_wp2_with fail
            go_ret
            exact ⟨ret_bool (by rw [Hmb.out]; unfold modB; rw [all_not Hx.out (by rw [Has.out, H0.out, Hq.out]; rfl)]; simp), HBw.out.trans (HW12.out.mono (by omega))⟩
           | true =>
            have hk0 : 0 ≤ kz := by rw [hq] at hkn; simpa using hkn
            obtain ⟨kzn, rfl⟩ := Int.eq_ofNat_of_zero_le hk0
            have qk0 : decide ((kzn : Int) < 0) = false := by simp
            have H1 := Lib.hid hq
            clear hq hkn hk0
            go_wp2_with fail
            refine (s_l04Kind (m := m) m2 HR12.out (fun b hb => by have := hS b hb; have := HW12.out.size; omega)).mono ?_
            rintro e w13 ⟨rfl, hbq⟩
            have HW13 := Lib.hid (HW12.out.trans (hbq.mono HW12.out.size))
            have HX13 := Lib.hid (HX12.out.below hbq HX12.out.lt)
            have HM13 := Lib.hid (HM12.out.below hbq HM12.out.lt)
            have HR13 := Lib.hid (RModule.under HR12.out (fun b hb => by have := hS b hb; have := HW12.out.size; omega) hbq)
            clear hbq y0 y1 y2 y3 x0 x1 x2 x3
            obtain ⟨y0, y1, y2, y3⟩ := blkS4 HM13.out
            obtain ⟨x0, x1, x2, x3⟩ := blkS4 HX13.out
            obtain ⟨kz, hkz⟩ : ∃ kz, kz = kindOf m.1 m2 := ⟨_, rfl⟩
            have hkn := kindOf_neg HA1.out m2
            rw [Hn.out.1, ← hkz] at hkn
            rw [← hkz]
            clear hkz
            cases hq : inR m2 0 ((ns : Int) - 1) with
            | false =>
             have hk0 : kz < 0 := by rw [hq] at hkn; simpa using hkn
             have Hq := Lib.hid hq
             clear hq hkn
             go_wp2_with fail
             go_ret
             exact ⟨ret_bool (by rw [Hmb.out]; unfold modB; rw [all_not Hx.out (by rw [Has.out, H0.out, H1.out, Hq.out]; rfl)]; simp), HBw.out.trans (HW13.out.mono (by omega))⟩
            | true =>
             have hk0 : 0 ≤ kz := by rw [hq] at hkn; simpa using hkn
             obtain ⟨kzn, rfl⟩ := Int.eq_ofNat_of_zero_le hk0
             have qk0 : decide ((kzn : Int) < 0) = false := by simp
             have H2 := Lib.hid hq
             clear hq hkn hk0
             go_wp2_with fail
             refine (s_l04Driven (m := m) m3 HR13.out (fun b hb => by have := hS b hb; have := HW13.out.size; omega)).mono ?_
             rintro e w14 ⟨rfl, hb14⟩
             have Hb14 := Lib.hid (Hb.out.trans ((HW13.out.trans (hb14.mono HW13.out.size)).mono hsz))
             clear hb14 y0 y1 y2 y3 x0 x1 x2 x3
             cases hqo : drivesB m.1 m3 with
             | false =>
              have Hqo := Lib.hid hqo
              clear hqo
              go_wp2_with fail
              go_ret
              exact ⟨ret_bool (by rw [Hmb.out]; unfold modB; rw [all_not Hx.out (by rw [Has.out, H0.out, H1.out, H2.out, Hqo.out]; rfl)]; simp), HB1.out.trans (Hb14.out.mono (by omega))⟩
             | true =>
              have Hqo := Lib.hid hqo
              clear hqo
              go_wp2_with fail
              go_roundw
              case rel => exact ⟨j + 1, by omega, by go_num, Lib.hid (by rw [Hs.out, Hok.out, Has.out, H0.out, H1.out, H2.out, Hqo.out]; rfl), Hb14.out⟩
              case measure => simp [intOf]; omega
         ·have hge : (nm : Int) ≤ (j : Int) := by omega
          have hjn : j = nm := by omega
          have HA4 := Lib.hid (show m.2.2.2.all (memB m.1) = true by have h1 := Hok.out; rw [List.take_of_length_le (by have := Hn.out.2.2.2; omega)] at h1; exact h1)
          clear hjn
          go_wp2_with fail
          go_ret
          exact ⟨ret_bool (by rw [Hmb.out]; unfold modB; rw [HA1.out, HA2.out, HA3.out, HA4.out, HA5.out]; rfl), HBw.out⟩
end Go.Proofs.YthjdigcpgpiiiaaDoor
