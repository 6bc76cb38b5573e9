/- Contracts: the drivers of a signal: the reference's function. -/
import Derived.Test.YtjiijjihkgipkaaDsnF
import Derived.Outline
namespace Go.Proofs.Ytjiijjihkgipkaa
open Go.RowKit

theorem l04C_iff {d : TDesign} {k : Int} : l04C d k = true ↔ (0 ≤ k ∧ k < d.length) ∧ countsB d = true ∧ instsB d k = true := by
  simp [l04C]
theorem inR_no2 {ns sn : Nat} (h : ns ≤ sn) : inR (sn : Int) 0 ((ns : Int) - 1) = false := by rw [Bool.eq_false_iff]; intro hc; have := inR_iff.1 hc; omega
theorem inR_no1 {s : Int} {ns : Nat} (h : s < 0) : inR s 0 ((ns : Int) - 1) = false := by rw [Bool.eq_false_iff]; intro hc; have := inR_iff.1 hc; omega
set_option maxRecDepth 100000 in
set_option maxHeartbeats 8000000 in
theorem s_DriverCount {w : World} {S : Nat → Prop} {v : Value} {d : TDesign} (k s : Int) (h : RDesign w S v d) (hS : ∀ b, S b → b < w.heap.size) :
    Calls Try.prog 16 #[v, .int .i64 k, .int .i64 s] w fun e w' => e = .returned (.int .i64 (dcB d k s)) ∧ Below w.heap.size w w' := by
  obtain ⟨A, c, rfl, hr, hm⟩ := dsn_open h
  obtain ⟨n, hl⟩ : ∃ n, d.length = n := ⟨_, rfl⟩
  rw [hl] at hr hm h ⊢
  have Hl := Lib.hid hl
  unfold maxLen at hm
  have HD := Lib.hid (Blk.new w 29 #[.slice A n c])
  have HB := Lib.hid ((Below.refl w.heap.size w).alloc (Nat.le_refl _) (.cells #[.slice A n c] 29))
  have HDk := Lib.hid (RDesign.keep (w' := w.alloc (.cells #[.slice A n c] 29)) h (fun p hp => World.cell?_alloc_lt _ _ p (hS _ hp)))
  have hS1 : ∀ b, S b → b < (w.alloc (.cells #[.slice A n c] 29)).heap.size := fun b hb => by have := hS b hb; simp; omega
  clear hl h
  cases hL : l04C d k with
  | false =>
    have HL := Lib.hid hL
    clear hL
    go_enter Try.func16, Try.ntmps16
    go_wp2_with fail
    refine (s_l04Counts k HDk.out hS1).mono ?_
    rintro e w1 ⟨rfl, hb1⟩
    rw [HL.out]
    have Hb1 := Lib.hid (HB.out.trans (hb1.mono (by simp)))
    go_wp2_with fail
    go_ret
    exact ⟨ret_int (dcB_no (.inl HL.out)).symm, Hb1.out⟩
  | true =>
    obtain ⟨⟨h1, h2⟩, hcb, hib⟩ := l04C_iff.1 hL
    obtain ⟨kn, rfl⟩ := Int.eq_ofNat_of_zero_le h1
    have hkn : kn < n := by have := Hl.out; omega
    have g5 : (0 : Int) ≤ (kn : Int) := by omega
    have g6 : (kn : Int) < (n : Int) := by omega
    have HL := Lib.hid hL
    have HR := Lib.hid hr
    obtain ⟨ad, m, A0, c0, A1, c1, A2, c2, A3, c3, rfl, hab, hx, hRm, hml, -, -, -, -⟩ := mod_row hr hkn
    have hmd := md_get hx
    have hab1 := hS _ hab
    have hc1 : cntOk1 m = true := by
      unfold countsB at hcb
      simp only [Bool.and_eq_true] at hcb
      exact List.all_eq_true.1 hcb.2 m (List.mem_of_getElem? hx)
    obtain ⟨b0, b1, b2, b3⟩ := cntOk1_iff.1 hc1
    unfold instsB at hib
    rw [hmd] at hib
    obtain ⟨_, _, _, _, _, _, _, _, hae, hSg, hAs, hIn, hMe, _⟩ := mod_open hRm
    simp only [Value.agg.injEq, Array.mk.injEq, List.cons.injEq, Value.slice.injEq, true_and, and_true] at hae
    obtain ⟨⟨rfl, rfl⟩, ⟨rfl, rfl⟩, ⟨rfl, rfl⟩, rfl, rfl⟩ := hae
    have Hx0 := Lib.hid hx
    have Hmd := Lib.hid hmd
    have Hib := Lib.hid hib
    obtain ⟨ns, hns⟩ : ∃ ns, m.1.length = ns := ⟨_, rfl⟩
    obtain ⟨na, hna⟩ : ∃ na, m.2.1.length = na := ⟨_, rfl⟩
    obtain ⟨ni, hni⟩ : ∃ ni, m.2.2.1.length = ni := ⟨_, rfl⟩
    obtain ⟨nm, hnm⟩ : ∃ nm, m.2.2.2.length = nm := ⟨_, rfl⟩
    rw [hns] at b0 hSg
    rw [hna] at b1 hAs
    rw [hni] at b2 hIn
    rw [hnm] at b3 hMe
    have Hn := Lib.hid (And.intro hns (And.intro hna (And.intro hni hnm)))
    have HAs := Lib.hid hAs
    have HIn := Lib.hid hIn
    have HMe := Lib.hid hMe
    have Hdc := Lib.hid (show ∀ sn : Nat, sn < ns → dcB d (kn : Int) (sn : Int) = ((drvN d m sn : Nat) : Int) from fun sn hsn => by
      unfold dcB
      rw [hL, hmd, hns, show inR (sn : Int) 0 ((ns : Int) - 1) = true from inR_iff.2 (by omega)]
      simp)
    have Hdn := Lib.hid (show inR s 0 ((ns : Int) - 1) = false → dcB d (kn : Int) s = -1 from fun hn => dcB_no (.inr (by rw [hmd, hns]; exact hn)))
    clear hL h1 h2 hx hRm hml hr hcb hc1 hmd hib hSg hAs hIn hMe hns hna hni hnm
    go_enter Try.func16, Try.ntmps16
    go_wp2_with fail
    refine (s_l04Counts (kn : Int) HDk.out hS1).mono ?_
    rintro e w1 ⟨rfl, hb1⟩
    rw [HL.out]
    have Hb1 := Lib.hid (HB.out.trans (hb1.mono (by simp)))
    have z1 := hb1.size
    simp at z1
    have HD1 := Lib.hid (HD.out.below hb1 HD.out.lt)
    have yd := blkS1 HD1.out
    obtain ⟨adx, m9, B0, d0, B1, d1, B2, d2, B3, d3, hAe, _, hx9, hR9, hml9, e0, e1, e2, e3⟩ := mod_row (HR.out.under hS Hb1.out) hkn
    obtain rfl : ad = adx := by injection hAe
    obtain rfl : m = m9 := by have h1 := Hx0.out; rw [hx9] at h1; injection h1 with h1; exact h1.symm
    obtain ⟨_, _, _, _, _, _, _, _, hae9, hSg9, hAs9, hIn9, hMe9, _⟩ := mod_open hR9
    simp only [Value.agg.injEq, Array.mk.injEq, List.cons.injEq, Value.slice.injEq, true_and, and_true] at hae9
    obtain ⟨⟨rfl, rfl⟩, ⟨rfl, rfl⟩, ⟨rfl, rfl⟩, rfl, rfl⟩ := hae9
    rw [Hn.out.1] at e0 hSg9
    rw [Hn.out.2.1] at e1 hAs9
    rw [Hn.out.2.2.1] at e2 hIn9
    rw [Hn.out.2.2.2] at e3 hMe9
    have HAs1 := Lib.hid hAs9
    have HIn1 := Lib.hid hIn9
    have HMe1 := Lib.hid hMe9
    clear hb1 hx9 hR9 hml9 hAe hSg9 hAs9 hIn9 hMe9
    by_cases hs0 : 0 ≤ s
    · obtain ⟨sn, rfl⟩ := Int.eq_ofNat_of_zero_le hs0
      by_cases hsn : sn < ns
      · have g7 : (0 : Int) ≤ (sn : Int) := by omega
        have g8 : (sn : Int) < (ns : Int) := by omega
        have hn1 : ¬ ns ≤ sn := by omega
        obtain ⟨W1, hW1⟩ : ∃ W1, W1 = w1.alloc (.cells #[.slice B0 ns d0, .slice B1 na d1, .slice B2 ni d2, .slice B3 nm d3] 52) := ⟨_, rfl⟩
        go_wp2_with fail
        simp only [show decide ((sn : Int) < 0) = false from decide_eq_false (by omega)]
        have HXm := Lib.hid (show Blk W1 w1.heap.size 52 #[.slice B0 ns d0, .slice B1 na d1, .slice B2 ni d2, .slice B3 nm d3] by rw [hW1]; exact Blk.new _ _ _)
        have HD2 := Lib.hid (show Blk W1 w.heap.size 29 #[.slice (some ad) n c] by rw [hW1]; exact HD1.out.alloc _)
        have HBw := Lib.hid (show Below w.heap.size w W1 by rw [hW1]; exact Hb1.out.alloc (by omega) _)
        have hz : W1.heap.size = w1.heap.size + 1 := by rw [hW1]; simp
        have hkw : ∀ p : Addr, S p.block → W1.cell? p = w1.cell? p := fun p hp => by rw [hW1]; exact World.cell?_alloc_lt _ _ p (by have := hS _ hp; omega)
        have HAs2 := Lib.hid (HAs1.out.keep hkw)
        have HIn2 := Lib.hid (HIn1.out.keep hkw)
        have HMe2 := Lib.hid (HMe1.out.keep hkw)
        rw [← hW1]
        clear hW1 yd e0 e1 e2 e3 hkw
        go_loopw [8, 9] (fun nv iv wr => ∃ j : Nat, j ≤ na ∧ iv = .int .i64 j ∧ nv = .int .i64 ((asgN (m.2.1.take j) sn : Nat) : Int) ∧ wr = W1) (fun _ iv _ => na - (intOf iv).toNat)
        case atStart => exact ⟨0, Nat.zero_le _, rfl, rfl, rfl⟩
        case round =>
          obtain ⟨j, hj, rfl, rfl, rfl⟩ := hrel
          obtain ⟨cn, hcn⟩ : ∃ cn, cn = asgN (m.2.1.take j) sn := ⟨_, rfl⟩
          have hcb : cn ≤ 30 := by rw [hcn]; have h1 := asgN_le (m.2.1.take j) sn; rw [List.length_take] at h1; omega
          rw [← hcn]
          have Hcn := Lib.hid hcn
          clear hcn
          obtain ⟨y0, y1, y2, y3⟩ := blkS4 HXm.out
          by_cases hlt : j < na
          · obtain ⟨ad2, a, os, A1', c1', rfl, hab2, hx, hro, hom, t0, t1⟩ := asg_row HAs2.out hlt
            have g1 : (0 : Int) ≤ (j : Int) := by omega
            have g2 : (j : Int) < (na : Int) := by omega
            have Hs := Lib.hid (asgN_succ hx sn)
            clear hx hro hom
            by_cases ha : a = (sn : Int)
            · subst ha
              go_wp2_with fail
              go_roundw
              case rel => exact ⟨j + 1, by omega, by go_num, by rw [Hs.out, ← Hcn.out, if_pos rfl]; go_num, trivial⟩
              case measure => simp [intOf]; omega
            · have qa : (a == (sn : Int)) = false := by simpa using ha
              have Ha := Lib.hid ha
              clear ha
              go_wp2_with fail
              go_roundw
              case rel => exact ⟨j + 1, by omega, by go_num, by rw [Hs.out, ← Hcn.out, if_neg Ha.out]; go_num, trivial⟩
              case measure => simp [intOf]; omega
          · have hge : (na : Int) ≤ (j : Int) := by omega
            have hjn : j = na := by omega
            have HcA := Lib.hid (show cn = asgN m.2.1 sn by rw [Hcn.out, List.take_of_length_le (by have := Hn.out.2.1; omega)])
            clear hjn
            go_wp2_with fail
            go_loopw [8, 10] (fun nv iv wz => ∃ j : Nat, j ≤ nm ∧ iv = .int .i64 j ∧ nv = .int .i64 ((cn + memN (m.2.2.2.take j) sn : Nat) : Int) ∧ wz = wr) (fun _ iv _ => nm - (intOf iv).toNat)
            case atStart => exact ⟨0, Nat.zero_le _, rfl, by simp [memN], rfl⟩
            case round =>
              obtain ⟨j2, hj2, rfl, rfl, rfl⟩ := hrel
              obtain ⟨ct, hct⟩ : ∃ ct, ct = cn + memN (m.2.2.2.take j2) sn := ⟨_, rfl⟩
              have hctb : ct ≤ 40 := by rw [hct]; have h1 := memN_le (m.2.2.2.take j2) sn; rw [List.length_take] at h1; omega
              rw [← hct]
              have Hct := Lib.hid hct
              clear hct
              by_cases hlt2 : j2 < nm
              · obtain ⟨ad2, m0, m1, m2, m3, rfl, hab2, hx, t0, t1, t2, t3⟩ := fMemS_row HMe2.out hlt2
                have g1 : (0 : Int) ≤ (j2 : Int) := by omega
                have g2 : (j2 : Int) < (nm : Int) := by omega
                have Hs := Lib.hid (memN_succ hx sn)
                clear hx
                by_cases ha : m3 = (sn : Int)
                · subst ha
                  go_wp2_with fail
                  go_roundw
                  case rel => exact ⟨j2 + 1, by omega, by go_num, by rw [Hs.out, ← Nat.add_assoc, ← Hct.out, if_pos rfl]; go_num, trivial⟩
                  case measure => simp [intOf]; omega
                · have qa : (m3 == (sn : Int)) = false := by simpa using ha
                  have Ha := Lib.hid ha
                  clear ha
                  go_wp2_with fail
                  go_roundw
                  case rel => exact ⟨j2 + 1, by omega, by go_num, by rw [Hs.out, ← Nat.add_assoc, ← Hct.out, if_neg Ha.out]; go_num, trivial⟩
                  case measure => simp [intOf]; omega
              · have hge2 : (nm : Int) ≤ (j2 : Int) := by omega
                have hjn2 : j2 = nm := by omega
                have HcM := Lib.hid (show ct = asgN m.2.1 sn + memN m.2.2.2 sn by rw [Hct.out, HcA.out, List.take_of_length_le (by have := Hn.out.2.2.2; omega)])
                clear hjn2
                go_wp2_with fail
                obtain ⟨W2, rfl⟩ : ∃ W2, W2 = wr := ⟨wr, rfl⟩
                go_loopw [8, 11, 12, 13, 14] (fun nv iv _ _ _ wz => ∃ j : Nat, j ≤ ni ∧ iv = .int .i64 j ∧ nv = .int .i64 ((ct + insN d (m.2.2.1.take j) sn : Nat) : Int) ∧ Below W2.heap.size W2 wz) (fun _ iv _ _ _ _ => ni - (intOf iv).toNat)
                case atStart => exact ⟨0, Nat.zero_le _, rfl, by simp [insN], Below.refl _ _⟩
                case round =>
                  clear y0 y1 y2 y3
                  obtain ⟨j3, hj3, rfl, rfl, hb3⟩ := hrel
                  obtain ⟨cu, hcu⟩ : ∃ cu, cu = ct + insN d (m.2.2.1.take j3) sn := ⟨_, rfl⟩
                  have hcub : cu ≤ 200 := by rw [hcu]; have h1 := insN_le d (m.2.2.1.take j3) sn; rw [List.length_take] at h1; omega
                  rw [← hcu]
                  have Hcu := Lib.hid hcu
                  have Hb3 := Lib.hid hb3
                  have z3 := hb3.size
                  have HD3 := Lib.hid (HD2.out.below hb3 HD2.out.lt)
                  have HXm3 := Lib.hid (HXm.out.below hb3 HXm.out.lt)
                  have HBw3 := Lib.hid (HBw.out.trans (hb3.mono (by omega)))
                  clear hcu
                  obtain ⟨y0, y1, y2, y3⟩ := blkS4 HXm3.out
                  by_cases hlt3 : j3 < ni
                  · obtain ⟨ad2, a, pr, ps, A2', c2', rfl, hab2, hx, hrp, hpm, f0, f1, f2⟩ := ins_row (HIn2.out.under (B := W2.heap.size) (fun b hb => by have := hS b hb; omega) hb3) hlt3
                    have hab3 := hS _ hab2
                    have g1 : (0 : Int) ≤ (j3 : Int) := by omega
                    have g2 : (j3 : Int) < (ni : Int) := by omega
                    unfold maxLen at hpm
                    have Hs := Lib.hid (insN_succ (d := d) hx sn)
                    have hib3 : insB d kn (a, pr, ps) = true := List.all_eq_true.1 Hib.out _ (List.mem_of_getElem? hx)
                    simp only [insB, Bool.and_eq_true, decide_eq_true_eq] at hib3
                    obtain ⟨hia, hipl⟩ := hib3
                    have hq1 := (inR_iff.1 hia).1
                    have hq2 := (inR_iff.1 hia).2
                    obtain ⟨p, rfl⟩ := Int.eq_ofNat_of_zero_le hq1
                    have hpn : p < n := by omega
                    have g3 : (p : Int) < (n : Int) := by omega
                    have g4 : (0 : Int) ≤ (p : Int) := by omega
                    have Hrp := Lib.hid hrp
                    obtain ⟨ad3, m', D0, u0, D1, u1, D2, u2, D3, u3, hAe, hab4, hx', hRm', hml', r0, r1, r2, r3⟩ := mod_row ((HR.out.under hS HBw3.out)) hpn
                    obtain rfl : ad = ad3 := by injection hAe
                    have hmd' := md_get hx'
                    rw [hmd'] at hipl
                    have HIN := Lib.hid (show instN d ((p : Int), pr, ps) sn = portN m'.1 ((portsM m').zip ps) sn by simp only [instN, hmd'])
                    obtain ⟨_, _, _, _, _, _, _, _, hae', hSg', _⟩ := mod_open hRm'
                    simp only [Value.agg.injEq, Array.mk.injEq, List.cons.injEq, Value.slice.injEq, true_and, and_true] at hae'
                    obtain ⟨⟨rfl, rfl⟩, -, -, -⟩ := hae'
                    have HSg' := Lib.hid hSg'
                    have HRm' := Lib.hid hRm'
                    obtain ⟨P, hP⟩ : ∃ P, P = portsM m' := ⟨_, rfl⟩
                    have hPl : P.length ≤ 30 := by rw [hP]; exact portsL_len _
                    rw [← hP] at hipl
                    have HP := Lib.hid hP
                    have Hipl := Lib.hid hipl
                    clear hx hrp hia hipl hAe hx' hRm' hml' hmd' hP hq1 hq2 hSg' hb3 y0 y1 y3
                    have hadb : ad.block < wr.heap.size := by omega
                    have had2b : ad2.block < wr.heap.size := by omega
                    go_wp2_with fail
                    refine wp_region_lexC (by kernel_rfl) (by kernel_rfl) (fun x => Below wr.heap.size wr x) ((Below.refl _ _).drew) (fun lexNE => ?_)
                    have cD0 := bwS1 HD3.out HD3.out.lt
                    obtain ⟨cM0, cM1, cM2, cM3⟩ := bwS4 HXm3.out HXm3.out.lt
                    have cf0 := wcell f0 (by rw [block_of_add]; exact had2b)
                    have cf1 := wcell f1 (by rw [nxt_block]; exact had2b)
                    have cf2 := wcell f2 (by rw [nxt_block]; exact had2b)
                    have cr0 := wcell r0 (by rw [block_of_add]; exact hadb)
                    have cr1 := wcell r1 (by rw [nxt_block]; exact hadb)
                    have cr2 := wcell r2 (by rw [nxt_block]; exact hadb)
                    have cr3 := wcell r3 (by rw [nxt_block]; exact hadb)
                    (repeat (first | (refine lex_read (by first | exact wanted_n rfl | exact wanted_g rfl rfl rfl rfl) (by exact rfl) (fun K hK => ?_); go_big_quiet_op; refine hK _ ?_; clear hK K) | (refine lex_skip' (by exact wanted_g rfl rfl rfl rfl) (fun K hK => ?_); go_simp; refine hK _ ?_; clear hK K)))
                    (refine lex_eff (by first | exact wanted_n rfl | exact wanted_g rfl rfl rfl rfl) (by exact rfl) (fun K hK => ?_); go_big_op)
                    refine hK _ _ (Cls.mk' (by repeat (first | with_reducible exact Below.refl _ _ | with_reducible assumption | with_reducible refine below_drewN ?_ _ | with_reducible refine Below.drew ?_ | ((with_reducible refine Below.alloc ?_ ?_ _); rotate_left; (((try simp) <;> (try omega)) <;> done)) | ((with_reducible refine Below.setCell ?_ ?_ _); rotate_left; (((try simp) <;> (try omega)) <;> done)) | ((with_reducible refine Below.trans ?_ (Below.mono (by with_reducible assumption) ?_)); rotate_left; (((try simp) <;> (try omega)) <;> done))))) ?_
                    clear hK K
                    (repeat (first | (refine lex_read (by first | exact wanted_n rfl | exact wanted_g rfl rfl rfl rfl) (by exact rfl) (fun K hK => ?_); go_big_quiet_op; refine hK _ ?_; clear hK K) | (refine lex_skip' (by exact wanted_g rfl rfl rfl rfl) (fun K hK => ?_); go_simp; refine hK _ ?_; clear hK K)))
                    (refine lex_eff (by first | exact wanted_n rfl | exact wanted_g rfl rfl rfl rfl) (by exact rfl) (fun K hK => ?_); go_big_op)
                    refine hK _ _ (Cls.mk' (by repeat (first | with_reducible exact Below.refl _ _ | with_reducible assumption | with_reducible refine below_drewN ?_ _ | with_reducible refine Below.drew ?_ | ((with_reducible refine Below.alloc ?_ ?_ _); rotate_left; (((try simp) <;> (try omega)) <;> done)) | ((with_reducible refine Below.setCell ?_ ?_ _); rotate_left; (((try simp) <;> (try omega)) <;> done)) | ((with_reducible refine Below.trans ?_ (Below.mono (by with_reducible assumption) ?_)); rotate_left; (((try simp) <;> (try omega)) <;> done))))) ?_
                    clear hK K
                    (repeat (first | (refine lex_read (by first | exact wanted_n rfl | exact wanted_g rfl rfl rfl rfl) (by exact rfl) (fun K hK => ?_); go_big_quiet_op; refine hK _ ?_; clear hK K) | (refine lex_skip' (by exact wanted_g rfl rfl rfl rfl) (fun K hK => ?_); go_simp; refine hK _ ?_; clear hK K)))
                    (refine lex_nil ?_)
                    clear lexNE cD0 cM0 cM1 cM2 cM3 cf0 cf1 cf2 cr0 cr1 cr2 cr3
                    go_wp2_with fail
                    refine (s_PortsOf (RModule.keep (w' := (wr.alloc (.cells #[.slice D0 m'.1.length u0, .slice D1 m'.2.1.length u1, .slice D2 m'.2.2.1.length u2, .slice D3 m'.2.2.2.length u3] 52)).drew) HRm'.out (fun q hq => World.cell?_alloc_lt _ _ q (by have := hS _ hq; omega))) (fun b hb => by have := hS b hb; (try simp) <;> omega)).mono ?_
                    rintro e W5 ⟨v', rfl, hq8, hb8⟩
                    rw [← HP.out] at hq8
                    obtain ⟨A8, c8, rfl, hP8, _⟩ := sl_form hq8.rep (List.length_map _)
                    have hb9 : Below (wr.alloc (.cells #[.slice D0 m'.1.length u0, .slice D1 m'.2.1.length u1, .slice D2 m'.2.2.1.length u2, .slice D3 m'.2.2.2.length u3] 52)).heap.size (wr.alloc (.cells #[.slice D0 m'.1.length u0, .slice D1 m'.2.1.length u1, .slice D2 m'.2.2.1.length u2, .slice D3 m'.2.2.2.length u3] 52)) W5 := (Below.refl _ _).drew.trans hb8
                    have z5 : wr.heap.size + 1 ≤ W5.heap.size := by have h1 := hb9.size; simpa using h1
                    have HP8 := Lib.hid (hP8.mono (S' := fun b => b < W5.heap.size) (fun b hb => hb.2))
                    have HD5 := Lib.hid ((HD3.out.alloc (.cells #[.slice D0 m'.1.length u0, .slice D1 m'.2.1.length u1, .slice D2 m'.2.2.1.length u2, .slice D3 m'.2.2.2.length u3] 52)).below hb9 (by simp; omega))
                    have HXm5 := Lib.hid ((HXm3.out.alloc (.cells #[.slice D0 m'.1.length u0, .slice D1 m'.2.1.length u1, .slice D2 m'.2.2.1.length u2, .slice D3 m'.2.2.2.length u3] 52)).below hb9 (by simp; omega))
                    have HXn5 := Lib.hid ((Blk.new wr 52 #[.slice D0 m'.1.length u0, .slice D1 m'.2.1.length u1, .slice D2 m'.2.2.1.length u2, .slice D3 m'.2.2.2.length u3]).below hb9 (by simp))
                    have HB5 := Lib.hid ((Hb3.out.alloc (by omega) (.cells #[.slice D0 m'.1.length u0, .slice D1 m'.2.1.length u1, .slice D2 m'.2.2.1.length u2, .slice D3 m'.2.2.2.length u3] 52)).trans (hb9.mono (by simp; omega)))
                    have hkq : ∀ q : Addr, q.block < w.heap.size → W5.cell? q = wr.cell? q := fun q hq => (hb9.cell (by simp; omega)).trans (World.cell?_alloc_lt _ _ q (by omega))
                    have HSg5 := Lib.hid (Rep.keep (w' := W5) HSg'.out (fun q hq => hkq q (hS _ hq)))
                    have Hrp5 := Lib.hid (Rep.keep (w' := W5) Hrp.out (fun q hq => hkq q (hS _ hq)))
                    have Hf2 := Lib.hid ((hkq (nxt (ad2.add (j3 * 3)) 2) (by rw [nxt_block]; exact hab3)).trans f2)
                    clear hq8 hP8 hb8 hb9 hkq f0 f1 f2 r0 r1 r2 r3 y2
                    obtain ⟨np, hnp⟩ : ∃ np, P.length = np := ⟨_, rfl⟩
                    rw [hnp] at HP8 hPl ⊢
                    have Hnp := Lib.hid hnp
                    clear hnp
                    go_wp2_with fail
                    go_loopw [8, 14] (fun nv iv wz => ∃ q : Nat, q ≤ np ∧ iv = .int .i64 q ∧ nv = .int .i64 ((cu + portN m'.1 ((P.zip ps).take q) sn : Nat) : Int) ∧ Below W5.heap.size W5 wz) (fun _ iv _ => np - (intOf iv).toNat)
                    case atStart => exact ⟨0, Nat.zero_le _, rfl, by simp [portN], Below.refl _ _⟩
                    case round =>
                      obtain ⟨q, hq, rfl, rfl, hb4⟩ := hrel
                      obtain ⟨cv, hcv⟩ : ∃ cv, cv = cu + portN m'.1 ((P.zip ps).take q) sn := ⟨_, rfl⟩
                      have hcvb : cv ≤ 400 := by rw [hcv]; have h1 := portN_le m'.1 ((P.zip ps).take q) sn; rw [List.length_take] at h1; omega
                      rw [← hcv]
                      have Hcv := Lib.hid hcv
                      have Hb4 := Lib.hid hb4
                      have z6 := hb4.size
                      have hSW : ∀ b, S b → b < W5.heap.size := fun b hb => by have := hS b hb; omega
                      clear hcv hb4
                      by_cases hlt4 : q < np
                      · obtain ⟨ad8, y, rfl, hab8, hy, cP⟩ := fIntS_row (Rep.under HP8.out (fun _ h => h) Hb4.out) hlt4
                        obtain ⟨ix, sy, rfl, hsy⟩ := ports_mem (m := m') (by rw [← HP.out]; exact hy)
                        have hil := (List.getElem?_eq_some_iff.1 hsy).1
                        obtain ⟨ad9, x0, x1, x2, rfl, hab9, hx9, s0, s1, s2⟩ := fSignalS_row (HSg5.out.under hSW Hb4.out) hil
                        obtain ⟨ad7, zz, rfl, hab7, hz7, cz⟩ := fIntS_row (Hrp5.out.under hSW Hb4.out) (show q < ps.length by rw [Hipl.out, Hnp.out]; exact hlt4)
                        have hzip : (P.zip ps)[q]? = some ((ix : Int), zz) := List.getElem?_zip_eq_some.2 ⟨hy, hz7⟩
                        have Hsp := Lib.hid (portN_succ (sg := m'.1) hzip sn)
                        have Hka := Lib.hid (show kindAt m'.1 (ix : Int) = x0 by simp [kindAt, List.getD, hx9])
                        have g27 : (0 : Int) ≤ (q : Int) := by omega
                        have g28 : (q : Int) < (np : Int) := by omega
                        have g29 : (0 : Int) ≤ (ix : Int) := by omega
                        have g20 : (ix : Int) < (m'.1.length : Int) := by omega
                        have g21 : (q : Int) < (ps.length : Int) := by have := Hipl.out; have := Hnp.out; omega
                        have f2 := (Hb4.out.cell (p := nxt (ad2.add (j3 * 3)) 2) (by rw [nxt_block]; omega)).trans Hf2.out
                        obtain ⟨ym0, ym1, ym2, ym3⟩ := blkS4 (HXm5.out.below Hb4.out HXm5.out.lt)
                        obtain ⟨yn0, yn1, yn2, yn3⟩ := blkS4 (HXn5.out.below Hb4.out HXn5.out.lt)
                        clear hy hsy hx9 hz7 hzip
                        by_cases hk1 : x0 = 1
                        · subst hk1
                          by_cases ha : zz = (sn : Int)
                          · subst ha
                            go_wp2_with fail
                            refine wp_region_lex (by kernel_rfl) (by kernel_rfl) (Cls (fun x => x = wr.drew)) (Cls.mk' rfl) ?_
                            have lexNE : Nonempty (Wd (fun x => x = wr.drew)) := ⟨⟨_, rfl⟩⟩
                            have lexW : ∀ W : Wd (fun x => x = wr.drew), W.val = wr.drew := fun W => W.ok
                            (repeat (first | (refine lex_read (by first | exact wanted_n rfl | exact wanted_g rfl rfl rfl rfl) (by exact rfl) (fun K hK => ?_); go_big_quiet_op; refine hK _ ?_; clear hK K) | (refine lex_skip' (by exact wanted_g rfl rfl rfl rfl) (fun K hK => ?_); go_simp; refine hK _ ?_; clear hK K)))
                            (refine lex_nil ?_)
                            clear lexNE lexW
                            go_wp2_with fail
                            go_roundw
                            case rel => exact ⟨q + 1, by omega, by go_num, by rw [Hsp.out, Hka.out, if_pos (by simp), ← Nat.add_assoc, ← Hcv.out]; go_num, Hb4.out.drew⟩
                            case measure => simp [intOf]; omega
                          · have qa : (zz == (sn : Int)) = false := by simpa using ha
                            have Ha := Lib.hid ha
                            clear ha
                            go_wp2_with fail
                            refine wp_region_lex (by kernel_rfl) (by kernel_rfl) (Cls (fun x => x = wr.drew)) (Cls.mk' rfl) ?_
                            have lexNE : Nonempty (Wd (fun x => x = wr.drew)) := ⟨⟨_, rfl⟩⟩
                            have lexW : ∀ W : Wd (fun x => x = wr.drew), W.val = wr.drew := fun W => W.ok
                            (repeat (first | (refine lex_read (by first | exact wanted_n rfl | exact wanted_g rfl rfl rfl rfl) (by exact rfl) (fun K hK => ?_); go_big_quiet_op; refine hK _ ?_; clear hK K) | (refine lex_skip' (by exact wanted_g rfl rfl rfl rfl) (fun K hK => ?_); go_simp; refine hK _ ?_; clear hK K)))
                            (refine lex_nil ?_)
                            clear lexNE lexW
                            go_wp2_with fail
                            go_roundw
                            case rel => exact ⟨q + 1, by omega, by go_num, by rw [Hsp.out, Hka.out, if_neg (fun hc => Ha.out hc.2), Nat.add_zero, ← Hcv.out], Hb4.out.drew⟩
                            case measure => simp [intOf]; omega
                        · have qz : (x0 == 1) = false := by simpa using hk1
                          have Hk1 := Lib.hid hk1
                          clear hk1
                          go_wp2_with fail
                          refine wp_region_lex (by kernel_rfl) (by kernel_rfl) (Cls (fun x => x = wr.drew)) (Cls.mk' rfl) ?_
                          have lexNE : Nonempty (Wd (fun x => x = wr.drew)) := ⟨⟨_, rfl⟩⟩
                          have lexW : ∀ W : Wd (fun x => x = wr.drew), W.val = wr.drew := fun W => W.ok
                          (repeat (first | (refine lex_read (by first | exact wanted_n rfl | exact wanted_g rfl rfl rfl rfl) (by exact rfl) (fun K hK => ?_); go_big_quiet_op; refine hK _ ?_; clear hK K) | (refine lex_skip' (by exact wanted_g rfl rfl rfl rfl) (fun K hK => ?_); go_simp; refine hK _ ?_; clear hK K)))
                          (refine lex_nil ?_)
                          clear lexNE lexW
                          go_wp2_with fail
                          go_roundw
                          case rel => exact ⟨q + 1, by omega, by go_num, by rw [Hsp.out, Hka.out, if_neg (fun hc => Hk1.out hc.1), Nat.add_zero, ← Hcv.out], Hb4.out.drew⟩
                          case measure => simp [intOf]; omega
                      · have hge4 : (np : Int) ≤ (q : Int) := by omega
                        have hqn : q = np := by omega
                        have Hcw := Lib.hid (show ct + insN d (m.2.2.1.take (j3 + 1)) sn = cv by rw [Hs.out, HIN.out, Hcv.out, ← HP.out, List.take_of_length_le (l := P.zip ps) (by rw [List.length_zip]; have := Hnp.out; omega), ← Nat.add_assoc, ← Hcu.out])
                        clear hqn
                        go_wp2_with fail
                        go_roundw
                        case rel => exact ⟨j3 + 1, by omega, by go_num, by rw [Hcw.out], HB5.out.trans (Hb4.out.mono HB5.out.size)⟩
                        case measure => simp [intOf]; omega
                  · have hge3 : (ni : Int) ≤ (j3 : Int) := by omega
                    have hjn3 : j3 = ni := by omega
                    have HcF := Lib.hid (show dcB d (kn : Int) (sn : Int) = (cu : Int) by
                      rw [Hdc.out sn hsn, Hcu.out, HcM.out, List.take_of_length_le (by have := Hn.out.2.2.1; omega)]
                      rfl)
                    clear hjn3
                    go_wp2_with fail
                    go_ret
                    exact ⟨ret_int HcF.out.symm, HBw3.out⟩
      · have hns2 : ns ≤ sn := by omega
        go_wp2_with fail
        go_ret
        exact ⟨ret_int (Hdn.out (inR_no2 hns2)).symm, Hb1.out⟩
    · have hs0' : s < 0 := by omega
      go_wp2_with fail
      go_ret
      exact ⟨ret_int (Hdn.out (inR_no1 hs0')).symm, Hb1.out⟩
end Go.Proofs.Ytjiijjihkgipkaa
