/- Contracts: the lists and instances of a design: the reference's function. -/
import Derived.Test.YtjiijjihkgipkaaDsnE
import Derived.Outline
namespace Go.Proofs.Ytjiijjihkgipkaa
open Go.RowKit

set_option maxRecDepth 100000 in
set_option maxHeartbeats 8000000 in
theorem s_l04Counts {w : World} {S : Nat → Prop} {v : Value} {d : TDesign} (k : Int) (h : RDesign w S v d) (hS : ∀ b, S b → b < w.heap.size) :
    Calls Try.prog 64 #[v, .int .i64 k] w fun e w' => e = .returned (.bool (l04C d k)) ∧ Below w.heap.size w w' := by
  obtain ⟨A, c, rfl, hr, hm⟩ := dsn_open h
  obtain ⟨n, hl⟩ : ∃ n, d.length = n := ⟨_, rfl⟩
  rw [hl] at hr hm h ⊢
  have Hl := Lib.hid hl
  unfold maxLen at hm
  clear h hl
  by_cases h4 : n ≤ 4
  · by_cases hk0 : 0 ≤ k
    · obtain ⟨kn, rfl⟩ := Int.eq_ofNat_of_zero_le hk0
      by_cases hk1 : kn < n
      · have g5 : (0 : Int) ≤ (kn : Int) := by omega
        have g6 : (kn : Int) < (n : Int) := by omega
        have HR := Lib.hid hr
        obtain ⟨ad, m, A0, c0, A1, c1, A2, c2, A3, c3, rfl, hab, hx, hRm, hml, -, -, -, -⟩ := mod_row hr hk1
        have Hmd := Lib.hid (md_get hx)
        have hab1 := hS _ hab
        have hpl := hml.2.2.1
        unfold maxLen at hpl
        obtain ⟨_, _, _, _, _, _, _, _, hae, _, _, hI, _⟩ := mod_open hRm
        simp only [Value.agg.injEq, Array.mk.injEq, List.cons.injEq, Value.slice.injEq, true_and, and_true] at hae
        obtain ⟨⟨-, -⟩, ⟨-, -⟩, ⟨rfl, rfl⟩, -, -⟩ := hae
        obtain ⟨ni, hni⟩ : ∃ ni, m.2.2.1.length = ni := ⟨_, rfl⟩
        rw [hni] at hI hpl
        have Hni := Lib.hid hni
        have HI := Lib.hid hI
        have HRm := Lib.hid hRm
        have Hx0 := Lib.hid hx
        clear hx hRm hml hni hr hI
        go_enter Try.func64, Try.ntmps64
        go_wp2_with fail
        simp only [show decide (n ≤ kn) = false from decide_eq_false (by omega), show decide ((4 : Int) < (n : Int)) = false from decide_eq_false (by omega), show decide ((kn : Int) < 0) = false from decide_eq_false (by omega), Bool.or_self]
        go_loopw [5, 6] (fun iv _ wr => ∃ j : Nat, j ≤ n ∧ iv = .int .i64 j ∧ Hid ((d.take j).all cntOk1 = true) ∧ Blk wr w.heap.size 29 #[.slice (some ad) n c] ∧ Below w.heap.size w wr) (fun iv _ _ => n - (intOf iv).toNat)
        case atStart => exact ⟨0, Nat.zero_le _, rfl, Lib.hid rfl, Blk.new _ _ _, (by repeat (first | with_reducible exact Below.refl _ _ | with_reducible assumption | with_reducible refine below_drewN ?_ _ | with_reducible refine Below.drew ?_ | ((with_reducible refine Below.alloc ?_ ?_ _); rotate_left; (((try simp) <;> (try omega)) <;> done)) | ((with_reducible refine Below.setCell ?_ ?_ _); rotate_left; (((try simp) <;> (try omega)) <;> done)) | ((with_reducible refine Below.trans ?_ (Below.mono (by with_reducible assumption) ?_)); rotate_left; (((try simp) <;> (try omega)) <;> done))))⟩
        case round =>
          obtain ⟨j, hj, rfl, Hok, hD, hb⟩ := hrel
          have Hb := Lib.hid hb
          have HD := Lib.hid hD
          have hsz := hb.size
          have hlt0 := hD.lt
          have yd := blkS1 hD
          clear hb hD
          by_cases hlt : j < n
          · obtain ⟨adx, m1, B0, b0, B1, b1, B2, b2, B3, b3, hAe, hab2, hx, hR1, hml1, e0, e1, e2, e3⟩ := mod_row (HR.out.under hS Hb.out) hlt
            obtain rfl : ad = adx := by injection hAe
            have Hx := Lib.hid hx
            have g1 : (0 : Int) ≤ (j : Int) := by omega
            have g2 : (j : Int) < (n : Int) := by omega
            have Hb2 := Lib.hid (Hb.out.alloc hsz (.cells #[.slice B0 m1.1.length b0, .slice B1 m1.2.1.length b1, .slice B2 m1.2.2.1.length b2, .slice B3 m1.2.2.2.length b3] 52))
            have Hs := Lib.hid (all_take (p := cntOk1) hx)
            clear hR1 hml1 hx hAe
            by_cases q0 : m1.1.length ≤ 30
            · by_cases q1 : m1.2.1.length ≤ 30
              · by_cases q2 : m1.2.2.1.length ≤ 3
                · by_cases q3 : m1.2.2.2.length ≤ 2
                  · have Hq := Lib.hid (cntOk1_iff.2 ⟨q0, q1, q2, q3⟩)
                    go_wp2_with fail
                    go_roundw
                    case rel => exact ⟨j + 1, by omega, by go_num, Lib.hid (by rw [Hs.out, Hok.out, Hq.out]; rfl), HD.out.alloc _, Hb2.out⟩
                    case measure => simp [intOf]; omega
                  · go_wp2_with fail
                    go_ret
                    exact ⟨ret_bool (by unfold l04C countsB; rw [all_not Hx.out (by simp only [cntOk1]; simp; omega), Bool.and_false, Bool.false_and, Bool.and_false]), Hb2.out⟩
                · go_wp2_with fail
                  go_ret
                  exact ⟨ret_bool (by unfold l04C countsB; rw [all_not Hx.out (by simp only [cntOk1]; simp; omega), Bool.and_false, Bool.false_and, Bool.and_false]), Hb2.out⟩
              · go_wp2_with fail
                go_ret
                exact ⟨ret_bool (by unfold l04C countsB; rw [all_not Hx.out (by simp only [cntOk1]; simp; omega), Bool.and_false, Bool.false_and, Bool.and_false]), Hb2.out⟩
            · go_wp2_with fail
              go_ret
              exact ⟨ret_bool (by unfold l04C countsB; rw [all_not Hx.out (by simp only [cntOk1]; simp; omega), Bool.and_false, Bool.false_and, Bool.and_false]), Hb2.out⟩
          · have hjn : j = n := by omega
            have hge : (n : Int) ≤ (j : Int) := by omega
            have Hcb := Lib.hid (show countsB d = true by
              have h1 := Hok.out
              rw [List.take_of_length_le (by rw [Hl.out]; omega)] at h1
              unfold countsB
              rw [h1, Hl.out, decide_eq_true h4]
              rfl)
            clear hjn
            go_wp2_with fail
            clear yd
            go_loopw [7, 8] (fun iv _ wr => ∃ j : Nat, j ≤ ni ∧ iv = .int .i64 j ∧ Hid ((m.2.2.1.take j).all (insB d kn) = true) ∧ Blk wr w.heap.size 29 #[.slice (some ad) n c] ∧ Below w.heap.size w wr) (fun iv _ _ => ni - (intOf iv).toNat)
            case atStart => exact ⟨0, Nat.zero_le _, rfl, Lib.hid rfl, HD.out, Hb.out⟩
            case round =>
              clear HD Hb hsz hlt0
              obtain ⟨i, hi, rfl, Hok2, hD, hb⟩ := hrel
              have Hb := Lib.hid hb
              have HD := Lib.hid hD
              have hsz := hb.size
              have hlt0 := hD.lt
              have yd := blkS1 hD
              clear hb hD
              obtain ⟨adx, m9, B0, b0, B1, b1, B2, b2, B3, b3, hAe, _, hx9, hR9, hml9, e0, e1, e2, e3⟩ := mod_row (HR.out.under hS Hb.out) hk1
              obtain rfl : ad = adx := by injection hAe
              obtain rfl : m = m9 := by have h1 := Hx0.out; rw [hx9] at h1; injection h1 with h1; exact h1.symm
              rw [Hni.out] at e2
              obtain ⟨_, _, _, _, _, _, _, _, hae9, _, _, hI9, _⟩ := mod_open hR9
              simp only [Value.agg.injEq, Array.mk.injEq, List.cons.injEq, Value.slice.injEq, true_and, and_true] at hae9
              obtain ⟨⟨-, -⟩, ⟨-, -⟩, ⟨rfl, rfl⟩, -, -⟩ := hae9
              rw [Hni.out] at hI9
              clear hx9 hR9 hml9 hAe e0 e1 e3
              by_cases hlt2 : i < ni
              · obtain ⟨ad2, a, b, ps, A2', c2', rfl, hab2, hx, hrp, hpm, f0, f1, f2⟩ := ins_row hI9 hlt2
                have Hx := Lib.hid hx
                have g1 : (0 : Int) ≤ (i : Int) := by omega
                have g2 : (i : Int) < (ni : Int) := by omega
                have hab3 := hS _ hab2
                have Hb2 := Lib.hid (Hb.out.alloc hsz (.cells #[.int .i64 a, .int .i64 b, .slice A2' ps.length c2'] 93))
                have Hs := Lib.hid (all_take (p := insB d kn) hx)
                unfold maxLen at hpm
                clear hx
                by_cases ha0 : 0 ≤ a
                · obtain ⟨p, rfl⟩ := Int.eq_ofNat_of_zero_le ha0
                  by_cases hpk : p < kn
                  · have hpn : p < n := by omega
                    have g3 : (p : Int) < (n : Int) := by omega
                    have g7 : (p : Int) < (kn : Int) := by omega
                    have hn1 : ¬ kn ≤ p := by omega
                    have hn2 : ¬ (kn : Int) ≤ (p : Int) := by omega
                    have hn3 : ¬ (p : Int) < 0 := by omega
                    obtain ⟨ad3, m', D0, d0, D1, d1, D2, d2, D3, d3, hAe, hab4, hx', hRm', hml', t0, t1, t2, t3⟩ := mod_row ((HR.out.under hS Hb2.out)) hpn
                    obtain rfl : ad = ad3 := by injection hAe
                    have Hmd' := Lib.hid (md_get hx')
                    have hbl : ad.block < (wr.alloc (.cells #[.int .i64 p, .int .i64 b, .slice A2' ps.length c2'] 93)).heap.size := by simp; omega
                    have HRm' := Lib.hid hRm'
                    clear hx' hRm' hml' hAe
                    obtain ⟨P, hP⟩ : ∃ P, P = portsM m' := ⟨_, rfl⟩
                    have HP := Lib.hid hP
                    have hPl : P.length ≤ 30 := by rw [hP]; exact portsL_len _
                    clear hP
                    have Hins := Lib.hid (show insB d kn (p, b, ps) = decide (ps.length = P.length) by simp only [insB]; rw [show inR (p : Int) 0 ((kn : Int) - 1) = true from inR_iff.2 (by omega), Hmd'.out, HP.out]; rfl)
                    by_cases hpe : ps.length = P.length
                    · have hpe' : ((ps.length : Int) != (P.length : Int)) = false := by simp; omega
                      have Hpe := Lib.hid hpe
                      clear hpe
                      have HX := Lib.hid (Blk.new wr 93 #[.int .i64 p, .int .i64 b, .slice A2' ps.length c2'])
                      have Hd0 := Lib.hid (HD.out.alloc (.cells #[.int .i64 p, .int .i64 b, .slice A2' ps.length c2'] 93))
                      obtain ⟨W1, hW1⟩ : ∃ W1, W1 = wr.alloc (.cells #[.int .i64 p, .int .i64 b, .slice A2' ps.length c2'] 93) := ⟨_, rfl⟩
                      go_wp2_with fail
                      rw [← hW1] at HX Hd0 hbl t0 t1 t2 t3 HRm' Hb2 ⊢
                      have hlx : wr.heap.size < W1.heap.size := HX.out.lt
                      have hld : w.heap.size < W1.heap.size := Hd0.out.lt
                      have hlw : w.heap.size ≤ W1.heap.size := by omega
                      clear hW1
                      refine wp_region_lexC (by kernel_rfl) (by kernel_rfl) (fun x => Below W1.heap.size W1 x) ((Below.refl _ _).drew) (fun lexNE => ?_)
                      obtain ⟨cX0, cX1, cX2⟩ := bwS3 HX.out hlx
                      have cD0 := bwS1 Hd0.out hld
                      have ct0 := wcell t0 (by rw [block_of_add]; exact hbl)
                      have ct1 := wcell t1 (by rw [nxt_block]; exact hbl)
                      have ct2 := wcell t2 (by rw [nxt_block]; exact hbl)
                      have ct3 := wcell t3 (by rw [nxt_block]; exact hbl)
                      (repeat (first | (refine lex_read (by first | exact wanted_n rfl | exact wanted_g rfl rfl rfl rfl) (by exact rfl) (fun K hK => ?_); go_big_quiet_op; refine hK _ ?_; clear hK K) | (refine lex_skip' (by exact wanted_g rfl rfl rfl rfl) (fun K hK => ?_); go_simp; refine hK _ ?_; clear hK K)))
                      (refine lex_eff (by first | exact wanted_n rfl | exact wanted_g rfl rfl rfl rfl) (by exact rfl) (fun K hK => ?_); go_big_op)
                      refine (s_PortsOf (HRm'.out.keep (w' := W1.drew) (fun _ _ => rfl)) (fun b hb => Nat.lt_of_lt_of_le (hS b hb) hlw)).mono ?_
                      rintro e w8 ⟨v', rfl, hq8, hb8⟩
                      rw [← HP.out] at hq8
                      obtain ⟨A8, c8, rfl, _, _⟩ := sl_form hq8.rep (List.length_map _)
                      have H8 := Lib.hid ((Below.refl W1.heap.size W1).drew.trans hb8)
                      refine hK _ _ (Cls.mk' H8.out) ?_
                      clear hK K hq8 hb8
                      (repeat (first | (refine lex_read (by first | exact wanted_n rfl | exact wanted_g rfl rfl rfl rfl) (by exact rfl) (fun K hK => ?_); go_big_quiet_op; refine hK _ ?_; clear hK K) | (refine lex_skip' (by exact wanted_g rfl rfl rfl rfl) (fun K hK => ?_); go_simp; refine hK _ ?_; clear hK K)))
                      (refine lex_nil ?_)
                      clear lexNE cX0 cX1 cX2 cD0 ct0 ct1 ct2 ct3
                      have Hf := H8
                      have HDf := Lib.hid (Hd0.out.below H8.out hld)
                      go_wp2_with fail
                      go_roundw
                      case rel => exact ⟨i + 1, by omega, by go_num, Lib.hid (by rw [Hs.out, Hok2.out, Hins.out, Hpe.out]; simp), HDf.out, Hb2.out.trans (Hf.out.mono hlw)⟩
                      case measure => simp [intOf]; omega
                    · have hpe' : ((ps.length : Int) != (P.length : Int)) = true := by simp; omega
                      have Hpe := Lib.hid hpe
                      clear hpe
                      have HX := Lib.hid (Blk.new wr 93 #[.int .i64 p, .int .i64 b, .slice A2' ps.length c2'])
                      have Hd0 := Lib.hid (HD.out.alloc (.cells #[.int .i64 p, .int .i64 b, .slice A2' ps.length c2'] 93))
                      obtain ⟨W1, hW1⟩ : ∃ W1, W1 = wr.alloc (.cells #[.int .i64 p, .int .i64 b, .slice A2' ps.length c2'] 93) := ⟨_, rfl⟩
                      go_wp2_with fail
                      rw [← hW1] at HX Hd0 hbl t0 t1 t2 t3 HRm' Hb2 ⊢
                      have hlx : wr.heap.size < W1.heap.size := HX.out.lt
                      have hld : w.heap.size < W1.heap.size := Hd0.out.lt
                      have hlw : w.heap.size ≤ W1.heap.size := by omega
                      clear hW1
                      refine wp_region_lexC (by kernel_rfl) (by kernel_rfl) (fun x => Below W1.heap.size W1 x) ((Below.refl _ _).drew) (fun lexNE => ?_)
                      obtain ⟨cX0, cX1, cX2⟩ := bwS3 HX.out hlx
                      have cD0 := bwS1 Hd0.out hld
                      have ct0 := wcell t0 (by rw [block_of_add]; exact hbl)
                      have ct1 := wcell t1 (by rw [nxt_block]; exact hbl)
                      have ct2 := wcell t2 (by rw [nxt_block]; exact hbl)
                      have ct3 := wcell t3 (by rw [nxt_block]; exact hbl)
                      (repeat (first | (refine lex_read (by first | exact wanted_n rfl | exact wanted_g rfl rfl rfl rfl) (by exact rfl) (fun K hK => ?_); go_big_quiet_op; refine hK _ ?_; clear hK K) | (refine lex_skip' (by exact wanted_g rfl rfl rfl rfl) (fun K hK => ?_); go_simp; refine hK _ ?_; clear hK K)))
                      (refine lex_eff (by first | exact wanted_n rfl | exact wanted_g rfl rfl rfl rfl) (by exact rfl) (fun K hK => ?_); go_big_op)
                      refine (s_PortsOf (HRm'.out.keep (w' := W1.drew) (fun _ _ => rfl)) (fun b hb => Nat.lt_of_lt_of_le (hS b hb) hlw)).mono ?_
                      rintro e w8 ⟨v', rfl, hq8, hb8⟩
                      rw [← HP.out] at hq8
                      obtain ⟨A8, c8, rfl, _, _⟩ := sl_form hq8.rep (List.length_map _)
                      have H8 := Lib.hid ((Below.refl W1.heap.size W1).drew.trans hb8)
                      refine hK _ _ (Cls.mk' H8.out) ?_
                      clear hK K hq8 hb8
                      (repeat (first | (refine lex_read (by first | exact wanted_n rfl | exact wanted_g rfl rfl rfl rfl) (by exact rfl) (fun K hK => ?_); go_big_quiet_op; refine hK _ ?_; clear hK K) | (refine lex_skip' (by exact wanted_g rfl rfl rfl rfl) (fun K hK => ?_); go_simp; refine hK _ ?_; clear hK K)))
                      (refine lex_nil ?_)
                      clear lexNE cX0 cX1 cX2 cD0 ct0 ct1 ct2 ct3
                      have Hf := H8
                      have HDf := Lib.hid (Hd0.out.below H8.out hld)
                      go_wp2_with fail
                      go_ret
                      exact ⟨ret_bool (by unfold l04C instsB; rw [Hmd.out, all_not Hx.out (by rw [Hins.out]; simpa using Hpe.out), Bool.and_false, Bool.and_false]), Hb2.out.trans (Hf.out.mono hlw)⟩
                  · have hpk' : (kn : Int) ≤ (p : Int) := by omega
                    have Hins := Lib.hid (show insB d kn (p, b, ps) = false by simp only [insB]; rw [show inR (p : Int) 0 ((kn : Int) - 1) = false by rw [Bool.eq_false_iff]; intro hc; have := inR_iff.1 hc; omega]; rfl)
                    have HX := Lib.hid (Blk.new wr 93 #[.int .i64 (p : Int), .int .i64 b, .slice A2' ps.length c2'])
                    have Hd0 := Lib.hid (HD.out.alloc (.cells #[.int .i64 (p : Int), .int .i64 b, .slice A2' ps.length c2'] 93))
                    obtain ⟨W1, hW1⟩ : ∃ W1, W1 = wr.alloc (.cells #[.int .i64 (p : Int), .int .i64 b, .slice A2' ps.length c2'] 93) := ⟨_, rfl⟩
                    go_wp2_with fail
                    rw [← hW1] at HX Hd0 Hb2 ⊢
                    have hlx : wr.heap.size < W1.heap.size := HX.out.lt
                    have hld : w.heap.size < W1.heap.size := Hd0.out.lt
                    have hlw : w.heap.size ≤ W1.heap.size := by omega
                    clear hW1
                    refine wp_region_lexC (by kernel_rfl) (by kernel_rfl) (fun x => Below W1.heap.size W1 x) ((Below.refl _ _).drew) (fun lexNE => ?_)
                    obtain ⟨cX0, cX1, cX2⟩ := bwS3 HX.out hlx
                    have cD0 := bwS1 Hd0.out hld
                    (repeat (first | (refine lex_read (by first | exact wanted_n rfl | exact wanted_g rfl rfl rfl rfl) (by exact rfl) (fun K hK => ?_); go_big_quiet_op; refine hK _ ?_; clear hK K) | (refine lex_skip' (by exact wanted_g rfl rfl rfl rfl) (fun K hK => ?_); go_simp; refine hK _ ?_; clear hK K)))
                    (refine lex_nil ?_)
                    clear lexNE cX0 cX1 cX2 cD0
                    go_wp2_with fail
                    go_ret
                    exact ⟨ret_bool (by unfold l04C instsB; rw [Hmd.out, all_not Hx.out Hins.out, Bool.and_false, Bool.and_false]), Hb2.out.drew⟩
                · have ha0' : a < 0 := by omega
                  have Hins := Lib.hid (show insB d kn (a, b, ps) = false by simp only [insB]; rw [show inR a 0 ((kn : Int) - 1) = false by rw [Bool.eq_false_iff]; intro hc; have := inR_iff.1 hc; omega]; rfl)
                  clear ha0
                  have HX := Lib.hid (Blk.new wr 93 #[.int .i64 a, .int .i64 b, .slice A2' ps.length c2'])
                  have Hd0 := Lib.hid (HD.out.alloc (.cells #[.int .i64 a, .int .i64 b, .slice A2' ps.length c2'] 93))
                  obtain ⟨W1, hW1⟩ : ∃ W1, W1 = wr.alloc (.cells #[.int .i64 a, .int .i64 b, .slice A2' ps.length c2'] 93) := ⟨_, rfl⟩
                  go_wp2_with fail
                  rw [← hW1] at HX Hd0 Hb2 ⊢
                  have hlx : wr.heap.size < W1.heap.size := HX.out.lt
                  have hld : w.heap.size < W1.heap.size := Hd0.out.lt
                  have hlw : w.heap.size ≤ W1.heap.size := by omega
                  clear hW1
                  refine wp_region_lexC (by kernel_rfl) (by kernel_rfl) (fun x => Below W1.heap.size W1 x) ((Below.refl _ _).drew) (fun lexNE => ?_)
                  obtain ⟨cX0, cX1, cX2⟩ := bwS3 HX.out hlx
                  have cD0 := bwS1 Hd0.out hld
                  (repeat (first | (refine lex_read (by first | exact wanted_n rfl | exact wanted_g rfl rfl rfl rfl) (by exact rfl) (fun K hK => ?_); go_big_quiet_op; refine hK _ ?_; clear hK K) | (refine lex_skip' (by exact wanted_g rfl rfl rfl rfl) (fun K hK => ?_); go_simp; refine hK _ ?_; clear hK K)))
                  (refine lex_nil ?_)
                  clear lexNE cX0 cX1 cX2 cD0
                  go_wp2_with fail
                  go_ret
                  exact ⟨ret_bool (by unfold l04C instsB; rw [Hmd.out, all_not Hx.out Hins.out, Bool.and_false, Bool.and_false]), Hb2.out.drew⟩
              · have hin : i = ni := by omega
                have hge2 : (ni : Int) ≤ (i : Int) := by omega
                have He := Lib.hid (show l04C d kn = true by
                  have h1 := Hok2.out
                  rw [List.take_of_length_le (by rw [Hni.out]; omega)] at h1
                  unfold l04C instsB
                  rw [Hmd.out, h1, Hcb.out, decide_eq_true (by have := Hl.out; omega)]
                  rfl)
                clear hin
                go_wp2_with fail
                go_ret
                exact ⟨ret_bool He.out.symm, Hb.out⟩
      · have hk1' : (n : Int) ≤ (kn : Int) := by omega
        go_enter Try.func64, Try.ntmps64
        go_wp2_with fail
        go_ret
        exact ⟨ret_bool (by unfold l04C; rw [decide_eq_false (by have := Hl.out; omega)]; rfl), (by repeat (first | with_reducible exact Below.refl _ _ | with_reducible assumption | with_reducible refine below_drewN ?_ _ | with_reducible refine Below.drew ?_ | ((with_reducible refine Below.alloc ?_ ?_ _); rotate_left; (((try simp) <;> (try omega)) <;> done)) | ((with_reducible refine Below.setCell ?_ ?_ _); rotate_left; (((try simp) <;> (try omega)) <;> done)) | ((with_reducible refine Below.trans ?_ (Below.mono (by with_reducible assumption) ?_)); rotate_left; (((try simp) <;> (try omega)) <;> done))))⟩
    · have hk0' : k < 0 := by omega
      go_enter Try.func64, Try.ntmps64
      go_wp2_with fail
      go_ret
      exact ⟨ret_bool (by unfold l04C; rw [decide_eq_false (by omega)]; rfl), (by repeat (first | with_reducible exact Below.refl _ _ | with_reducible assumption | with_reducible refine below_drewN ?_ _ | with_reducible refine Below.drew ?_ | ((with_reducible refine Below.alloc ?_ ?_ _); rotate_left; (((try simp) <;> (try omega)) <;> done)) | ((with_reducible refine Below.setCell ?_ ?_ _); rotate_left; (((try simp) <;> (try omega)) <;> done)) | ((with_reducible refine Below.trans ?_ (Below.mono (by with_reducible assumption) ?_)); rotate_left; (((try simp) <;> (try omega)) <;> done))))⟩
  · have h4' : (4 : Int) < (n : Int) := by omega
    go_enter Try.func64, Try.ntmps64
    go_wp2_with fail
    go_ret
    exact ⟨ret_bool (by unfold l04C countsB; rw [Hl.out, decide_eq_false h4]; simp), (by repeat (first | with_reducible exact Below.refl _ _ | with_reducible assumption | with_reducible refine below_drewN ?_ _ | with_reducible refine Below.drew ?_ | ((with_reducible refine Below.alloc ?_ ?_ _); rotate_left; (((try simp) <;> (try omega)) <;> done)) | ((with_reducible refine Below.setCell ?_ ?_ _); rotate_left; (((try simp) <;> (try omega)) <;> done)) | ((with_reducible refine Below.trans ?_ (Below.mono (by with_reducible assumption) ?_)); rotate_left; (((try simp) <;> (try omega)) <;> done))))⟩
end Go.Proofs.Ytjiijjihkgipkaa
