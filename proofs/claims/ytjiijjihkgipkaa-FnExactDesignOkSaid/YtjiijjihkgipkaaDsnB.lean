/- Contracts: have the instances of a module their ports: the program's function; one driver more. -/
import Derived.Test.YtjiijjihkgipkaaDsnA
import Derived.Test.YtjiijjihkgipkaaLawK
import Derived.Outline
namespace Go.Proofs.Ytjiijjihkgipkaa
open Go.RowKit

theorem bwS3 {B : Nat} {W0 : World} {g : Nat} {t : TypeId} {a b c : Value} (h : Blk W0 g t #[a, b, c]) (hg : g < B) : (∀ W : Wd (fun w => Below B W0 w), W.val.cell? ⟨g, 0, none⟩ = some a) ∧ (∀ W : Wd (fun w => Below B W0 w), W.val.cell? ⟨g, 1, none⟩ = some b) ∧ (∀ W : Wd (fun w => Below B W0 w), W.val.cell? ⟨g, 2, none⟩ = some c) :=
  ⟨fun W => (W.ok.cell (p := ⟨g, 0, none⟩) hg).trans (h.cell 0), fun W => (W.ok.cell (p := ⟨g, 1, none⟩) hg).trans (h.cell 1), fun W => (W.ok.cell (p := ⟨g, 2, none⟩) hg).trans (h.cell 2)⟩
/-- a cell below B in a class of worlds -/
theorem wcell {B : Nat} {W0 : World} {p : Addr} {u : Value} (h : W0.cell? p = some u) (hp : p.block < B) : ∀ W : Wd (fun w => Below B W0 w), W.val.cell? p = some u := fun W => (W.ok.cell hp).trans h

set_option maxRecDepth 100000 in
set_option maxHeartbeats 4000000 in
theorem i_instsOk {w : World} {S : Nat → Prop} {v : Value} {d : TDesign} {k : Nat} (h : RDesign w S v d) (hS : ∀ b, S b → b < w.heap.size) (hk : k < d.length) :
    Calls Try.prog 69 #[v, .int .i64 (k : Int)] w fun e w' => e = .returned (.bool (instsB d k)) ∧ Below w.heap.size w w' := by
  obtain ⟨A, c, rfl, hr, hm⟩ := dsn_open h
  obtain ⟨n, hl⟩ : ∃ n, d.length = n := ⟨_, rfl⟩
  rw [hl] at hr hm hk ⊢
  have Hl := Lib.hid hl
  unfold maxLen at hm
  obtain ⟨ad, m, A0, c0, A1, c1, A2, c2, A3, c3, rfl, hab, hx, hRm, hml, e0, e1, e2, e3⟩ := mod_row hr hk
  have Hmd := Lib.hid (md_get hx)
  have hab1 := hS _ hab
  have hpl := hml.2.2.1
  unfold maxLen at hpl
  obtain ⟨_, _, _, _, _, _, _, _, hae, _, _, hI, _⟩ := mod_open hRm
  simp only [Value.agg.injEq, Array.mk.injEq, List.cons.injEq, Value.slice.injEq, true_and, and_true] at hae
  obtain ⟨⟨-, -⟩, ⟨-, -⟩, ⟨rfl, rfl⟩, -, -⟩ := hae
  obtain ⟨ni, hni⟩ : ∃ ni, m.2.2.1.length = ni := ⟨_, rfl⟩
  rw [hni] at hI e2 hpl
  have Hni := Lib.hid hni
  have HRm := Lib.hid hRm
  have HR := Lib.hid hr
  have g5 : (0 : Int) ≤ (k : Int) := by omega
  have g6 : (k : Int) < (n : Int) := by omega
  have e2' := (World.cell?_alloc_lt w (.cells #[.slice (some ad) n c] 29) (nxt (ad.add (k * 4)) 2) (by rw [nxt_block]; exact hab1)).trans e2
  clear h hl hx hRm hml hni hr e0 e1 e2 e3
  go_enter Try.func69, Try.ntmps69
  go_wp2_with fail
  go_loopw [6, 14] (fun _ iv wr => ∃ j : Nat, j ≤ ni ∧ iv = .int .i64 j ∧ Hid ((m.2.2.1.take j).all (insB d k) = true) ∧ Blk wr w.heap.size 29 #[.slice (some ad) n c] ∧ Below w.heap.size w wr) (fun _ iv _ => ni - (intOf iv).toNat)
  case atStart => exact ⟨0, Nat.zero_le _, rfl, Lib.hid rfl, Blk.new _ _ _, (by repeat (first | with_reducible exact Below.refl _ _ | with_reducible assumption | with_reducible refine below_drewN ?_ _ | with_reducible refine Below.drew ?_ | ((with_reducible refine Below.alloc ?_ ?_ _); rotate_left; (((try simp) <;> (try omega)) <;> done)) | ((with_reducible refine Below.setCell ?_ ?_ _); rotate_left; (((try simp) <;> (try omega)) <;> done)) | ((with_reducible refine Below.trans ?_ (Below.mono (by with_reducible assumption) ?_)); rotate_left; (((try simp) <;> (try omega)) <;> done))))⟩
  case round =>
    obtain ⟨j, hj, rfl, Hok, hD, hb⟩ := hrel
    have Hb := Lib.hid hb
    have HD := Lib.hid hD
    have hsz := hb.size
    have hlt0 := hD.lt
    clear hb hD e2'
    by_cases hlt : j < ni
    · obtain ⟨ad2, a, b, ps, A2', c2', rfl, hab2, hx, hrp, hpm, f0, f1, f2⟩ := ins_row (hI.under hS Hb.out) hlt
      have Hx := Lib.hid hx
      have g1 : (0 : Int) ≤ (j : Int) := by omega
      have g2 : (j : Int) < (ni : Int) := by omega
      have hab3 := hS _ hab2
      have Hb2 := Lib.hid (Hb.out.alloc hsz (.cells #[.int .i64 a, .int .i64 b, .slice A2' ps.length c2'] 93))
      have Hs := Lib.hid (all_take (p := insB d k) hx)
      unfold maxLen at hpm
      clear hx
      cases hq : inR a 0 ((k : Int) - 1) with
      | false =>
        have Hq := Lib.hid hq
        clear hq
        have HX := Lib.hid (Blk.new wr 93 #[.int .i64 a, .int .i64 b, .slice A2' ps.length c2'])
        have Hd0 := Lib.hid (HD.out.alloc (.cells #[.int .i64 a, .int .i64 b, .slice A2' ps.length c2'] 93))
        obtain ⟨W1, hW1⟩ : ∃ W1, W1 = wr.alloc (.cells #[.int .i64 a, .int .i64 b, .slice A2' ps.length c2'] 93) := ⟨_, rfl⟩
        go_wp2_with fail
        rw [← hW1] at HX Hd0 Hb2 ⊢
        have hlx : wr.heap.size < W1.heap.size := HX.out.lt
        have hld : w.heap.size < W1.heap.size := Hd0.out.lt
        clear hW1
        refine wp_region_lexC (by kernel_rfl) (by kernel_rfl) (fun x => Below W1.heap.size W1 x) ((Below.refl _ _).drew) (fun lexNE => ?_)
        obtain ⟨cX0, cX1, cX2⟩ := bwS3 HX.out hlx
        have cD0 := bwS1 Hd0.out hld
        (repeat (first | (refine lex_read (by first | exact wanted_n rfl | exact wanted_g rfl rfl rfl rfl) (by exact rfl) (fun K hK => ?_); go_big_quiet_op; refine hK _ ?_; clear hK K) | (refine lex_skip' (by exact wanted_g rfl rfl rfl rfl) (fun K hK => ?_); go_simp; refine hK _ ?_; clear hK K)))
        (refine lex_eff (by first | exact wanted_n rfl | exact wanted_g rfl rfl rfl rfl) (by exact rfl) (fun K hK => ?_); go_big_op)
        refine (i_inRange a 0 ((k : Int) - 1) _).mono ?_
        rintro e w9 ⟨rfl, rfl⟩
        rw [Hq.out]
        refine hK _ _ (Cls.mk' ((Below.refl _ _).drew)) ?_
        clear hK K
        (repeat (first | (refine lex_read (by first | exact wanted_n rfl | exact wanted_g rfl rfl rfl rfl) (by exact rfl) (fun K hK => ?_); go_big_quiet_op; refine hK _ ?_; clear hK K) | (refine lex_skip' (by exact wanted_g rfl rfl rfl rfl) (fun K hK => ?_); go_simp; refine hK _ ?_; clear hK K)))
        (refine lex_nil ?_)
        clear lexNE cX0 cX1 cX2 cD0
        go_wp2_with fail
        go_ret
        exact ⟨ret_bool (by unfold instsB; rw [Hmd.out, all_not Hx.out (by simp only [insB]; rw [Hq.out]; rfl)]), Hb2.out.drew⟩
      | true =>
        have Hq := Lib.hid hq
        have hq1 := (inR_iff.1 hq).1
        have hq2 := (inR_iff.1 hq).2
        obtain ⟨p, rfl⟩ := Int.eq_ofNat_of_zero_le hq1
        have hpn : p < n := by omega
        have g3 : (p : Int) < (n : Int) := by omega
        clear hq
        obtain ⟨ad3, m', B0, b0, B1, b1, B2, b2, B3, b3, hAe, hab4, hx', hRm', hml', t0, t1, t2, t3⟩ := mod_row ((HR.out.under hS Hb2.out)) hpn
        obtain rfl : ad = ad3 := by injection hAe
        have Hmd' := Lib.hid (md_get hx')
        have hbl : ad.block < (wr.alloc (.cells #[.int .i64 p, .int .i64 b, .slice A2' ps.length c2'] 93)).heap.size := by simp; omega
        have HRm' := Lib.hid hRm'
        clear hx' hRm' hml' hAe
        obtain ⟨P, hP⟩ : ∃ P, P = portsM m' := ⟨_, rfl⟩
        have HP := Lib.hid hP
        have hPl : P.length ≤ 30 := by rw [hP]; exact portsL_len _
        clear hP
        have Hins := Lib.hid (show insB d k (p, b, ps) = decide (ps.length = P.length) by simp only [insB]; rw [Hq.out, Hmd'.out, HP.out]; rfl)
        by_cases hpe : ps.length = P.length
        · have hpe' : ((ps.length : Int) != (P.length : Int)) = false := by simp; omega
          have Hpe := Lib.hid hpe
          clear hpe
          have HX := Lib.hid (Blk.new wr 93 #[.int .i64 p, .int .i64 b, .slice A2' ps.length c2'])
          have Hd0 := Lib.hid (HD.out.alloc (.cells #[.int .i64 p, .int .i64 b, .slice A2' ps.length c2'] 93))
          obtain ⟨W1, hW1⟩ : ∃ W1, W1 = wr.alloc (.cells #[.int .i64 p, .int .i64 b, .slice A2' ps.length c2'] 93) := ⟨_, rfl⟩
          go_wp2_with fail
          rw [← hW1] at HX Hd0 hbl t0 t1 t2 t3 HRm' Hb2 ⊢
          have hlx : wr.heap.size < W1.heap.size := HX.out.lt
          have hld : w.heap.size < W1.heap.size := Hd0.out.lt
          have hlw : w.heap.size ≤ W1.heap.size := by omega
          clear hW1
          refine wp_region_lexC (by kernel_rfl) (by kernel_rfl) (fun x => Below W1.heap.size W1 x) ((Below.refl _ _).drew) (fun lexNE => ?_)
          obtain ⟨cX0, cX1, cX2⟩ := bwS3 HX.out hlx
          have cD0 := bwS1 Hd0.out hld
          have ct0 := wcell t0 (by rw [block_of_add]; exact hbl)
          have ct1 := wcell t1 (by rw [nxt_block]; exact hbl)
          have ct2 := wcell t2 (by rw [nxt_block]; exact hbl)
          have ct3 := wcell t3 (by rw [nxt_block]; exact hbl)
          (repeat (first | (refine lex_read (by first | exact wanted_n rfl | exact wanted_g rfl rfl rfl rfl) (by exact rfl) (fun K hK => ?_); go_big_quiet_op; refine hK _ ?_; clear hK K) | (refine lex_skip' (by exact wanted_g rfl rfl rfl rfl) (fun K hK => ?_); go_simp; refine hK _ ?_; clear hK K)))
          (refine lex_eff (by first | exact wanted_n rfl | exact wanted_g rfl rfl rfl rfl) (by exact rfl) (fun K hK => ?_); go_big_op)
          refine (i_inRange (p : Int) 0 ((k : Int) - 1) _).mono ?_
          rintro e w9 ⟨rfl, rfl⟩
          rw [Hq.out]
          refine hK _ _ (Cls.mk' ((Below.refl _ _).drew)) ?_
          clear hK K
          (repeat (first | (refine lex_read (by first | exact wanted_n rfl | exact wanted_g rfl rfl rfl rfl) (by exact rfl) (fun K hK => ?_); go_big_quiet_op; refine hK _ ?_; clear hK K) | (refine lex_skip' (by exact wanted_g rfl rfl rfl rfl) (fun K hK => ?_); go_simp; refine hK _ ?_; clear hK K)))
          (refine lex_eff (by first | exact wanted_n rfl | exact wanted_g rfl rfl rfl rfl) (by exact rfl) (fun K hK => ?_); go_big_op)
          refine (i_PortsOf (HRm'.out.keep (w' := W1.drew) (fun _ _ => rfl)) (fun b hb => Nat.lt_of_lt_of_le (hS b hb) hlw)).mono ?_
          rintro e w8 ⟨v', rfl, hq8, hb8⟩
          rw [← HP.out] at hq8
          obtain ⟨A8, c8, rfl, _, _⟩ := sl_form hq8.rep (List.length_map _)
          have H8 := Lib.hid ((Below.refl W1.heap.size W1).drew.trans hb8)
          refine hK _ _ (Cls.mk' H8.out) ?_
          clear hK K hq8 hb8
          (repeat (first | (refine lex_read (by first | exact wanted_n rfl | exact wanted_g rfl rfl rfl rfl) (by exact rfl) (fun K hK => ?_); go_big_quiet_op; refine hK _ ?_; clear hK K) | (refine lex_skip' (by exact wanted_g rfl rfl rfl rfl) (fun K hK => ?_); go_simp; refine hK _ ?_; clear hK K)))
          (refine lex_nil ?_)
          clear lexNE cX0 cX1 cX2 cD0 ct0 ct1 ct2 ct3
          have Hf := H8
          have HDf := Lib.hid (Hd0.out.below H8.out hld)
          go_wp2_with fail
          go_roundw
          case rel => exact ⟨j + 1, by omega, by go_num, Lib.hid (by rw [Hs.out, Hok.out, Hins.out, Hpe.out]; simp), HDf.out, Hb2.out.trans (Hf.out.mono hlw)⟩
          case measure => simp [intOf]; omega
        · have hpe' : ((ps.length : Int) != (P.length : Int)) = true := by simp; omega
          have Hpe := Lib.hid hpe
          clear hpe
          have HX := Lib.hid (Blk.new wr 93 #[.int .i64 p, .int .i64 b, .slice A2' ps.length c2'])
          have Hd0 := Lib.hid (HD.out.alloc (.cells #[.int .i64 p, .int .i64 b, .slice A2' ps.length c2'] 93))
          obtain ⟨W1, hW1⟩ : ∃ W1, W1 = wr.alloc (.cells #[.int .i64 p, .int .i64 b, .slice A2' ps.length c2'] 93) := ⟨_, rfl⟩
          go_wp2_with fail
          rw [← hW1] at HX Hd0 hbl t0 t1 t2 t3 HRm' Hb2 ⊢
          have hlx : wr.heap.size < W1.heap.size := HX.out.lt
          have hld : w.heap.size < W1.heap.size := Hd0.out.lt
          have hlw : w.heap.size ≤ W1.heap.size := by omega
          clear hW1
          refine wp_region_lexC (by kernel_rfl) (by kernel_rfl) (fun x => Below W1.heap.size W1 x) ((Below.refl _ _).drew) (fun lexNE => ?_)
          obtain ⟨cX0, cX1, cX2⟩ := bwS3 HX.out hlx
          have cD0 := bwS1 Hd0.out hld
          have ct0 := wcell t0 (by rw [block_of_add]; exact hbl)
          have ct1 := wcell t1 (by rw [nxt_block]; exact hbl)
          have ct2 := wcell t2 (by rw [nxt_block]; exact hbl)
          have ct3 := wcell t3 (by rw [nxt_block]; exact hbl)
          (repeat (first | (refine lex_read (by first | exact wanted_n rfl | exact wanted_g rfl rfl rfl rfl) (by exact rfl) (fun K hK => ?_); go_big_quiet_op; refine hK _ ?_; clear hK K) | (refine lex_skip' (by exact wanted_g rfl rfl rfl rfl) (fun K hK => ?_); go_simp; refine hK _ ?_; clear hK K)))
          (refine lex_eff (by first | exact wanted_n rfl | exact wanted_g rfl rfl rfl rfl) (by exact rfl) (fun K hK => ?_); go_big_op)
          refine (i_inRange (p : Int) 0 ((k : Int) - 1) _).mono ?_
          rintro e w9 ⟨rfl, rfl⟩
          rw [Hq.out]
          refine hK _ _ (Cls.mk' ((Below.refl _ _).drew)) ?_
          clear hK K
          (repeat (first | (refine lex_read (by first | exact wanted_n rfl | exact wanted_g rfl rfl rfl rfl) (by exact rfl) (fun K hK => ?_); go_big_quiet_op; refine hK _ ?_; clear hK K) | (refine lex_skip' (by exact wanted_g rfl rfl rfl rfl) (fun K hK => ?_); go_simp; refine hK _ ?_; clear hK K)))
          (refine lex_eff (by first | exact wanted_n rfl | exact wanted_g rfl rfl rfl rfl) (by exact rfl) (fun K hK => ?_); go_big_op)
          refine (i_PortsOf (HRm'.out.keep (w' := W1.drew) (fun _ _ => rfl)) (fun b hb => Nat.lt_of_lt_of_le (hS b hb) hlw)).mono ?_
          rintro e w8 ⟨v', rfl, hq8, hb8⟩
          rw [← HP.out] at hq8
          obtain ⟨A8, c8, rfl, _, _⟩ := sl_form hq8.rep (List.length_map _)
          have H8 := Lib.hid ((Below.refl W1.heap.size W1).drew.trans hb8)
          refine hK _ _ (Cls.mk' H8.out) ?_
          clear hK K hq8 hb8
          (repeat (first | (refine lex_read (by first | exact wanted_n rfl | exact wanted_g rfl rfl rfl rfl) (by exact rfl) (fun K hK => ?_); go_big_quiet_op; refine hK _ ?_; clear hK K) | (refine lex_skip' (by exact wanted_g rfl rfl rfl rfl) (fun K hK => ?_); go_simp; refine hK _ ?_; clear hK K)))
          (refine lex_nil ?_)
          clear lexNE cX0 cX1 cX2 cD0 ct0 ct1 ct2 ct3
          have Hf := H8
          have HDf := Lib.hid (Hd0.out.below H8.out hld)
          go_wp2_with fail
          go_ret
          exact ⟨ret_bool (by unfold instsB; rw [Hmd.out, all_not Hx.out (by rw [Hins.out]; simpa using Hpe.out)]), Hb2.out.trans (Hf.out.mono hlw)⟩
    · have hjn : j = ni := by omega
      have hge : (ni : Int) ≤ (j : Int) := by omega
      have He := Lib.hid (show instsB d k = true by
        have h1 := Hok.out
        rw [List.take_of_length_le (by rw [Hni.out]; omega)] at h1
        unfold instsB
        rw [Hmd.out, h1])
      clear hjn
      go_wp2_with fail
      go_ret
      exact ⟨ret_bool He.out.symm, Hb.out⟩
end Go.Proofs.Ytjiijjihkgipkaa
