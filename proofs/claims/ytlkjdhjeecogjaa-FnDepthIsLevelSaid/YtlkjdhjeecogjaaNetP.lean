/- Contracts: nets: when a net is valid: the reference's function. -/
import Derived.Test.YtlkjdhjeecogjaaNetO
namespace Go.Proofs.Ytlkjdhjeecogjaa
open Go.RowKit

theorem bw4 {B : Nat} {W0 : World} {g : Nat} {t : TypeId} {a b c d : Value} (h : Blk W0 g t #[a, b, c, d]) (hg : g < B) :
  (∀ W : Wd (fun w => Below B W0 w), W.val.cell? ⟨g, 0, none⟩ = some a) ∧ (∀ W : Wd (fun w => Below B W0 w), W.val.cell? ⟨g, 1, none⟩ = some b) ∧ (∀ W : Wd (fun w => Below B W0 w), W.val.cell? ⟨g, 2, none⟩ = some c) ∧ (∀ W : Wd (fun w => Below B W0 w), W.val.cell? ⟨g, 3, none⟩ = some d) :=
 ⟨fun W => (W.ok.cell (p := ⟨g, 0, none⟩) hg).trans (h.cell 0), fun W => (W.ok.cell (p := ⟨g, 1, none⟩) hg).trans (h.cell 1), fun W => (W.ok.cell (p := ⟨g, 2, none⟩) hg).trans (h.cell 2), fun W => (W.ok.cell (p := ⟨g, 3, none⟩) hg).trans (h.cell 3)⟩

set_option maxRecDepth 100000 in
set_option maxHeartbeats 4000000 in
theorem s_NetOk (inp : Int) {w : World} {S : Nat → Prop} {As Aa Ao : Option Addr} {ns cs na ca no co : Nat} {ss : List Seq3} {ands : List (Int × Int)} {outs : List Int} (hB : NetB ss ands outs) (h : NetR w S As ns cs ss Aa na ca ands Ao no co outs) (hS : ∀ b, S b → b < w.heap.size)
  (hr64 : ∀ x ∈ rootsL outs ss, x ≤ 9223372036854775807) (ha64 : ∀ x ∈ ands, x.1 ≤ 9223372036854775807 ∧ x.2 ≤ 9223372036854775807) :
  Calls Try.prog 109 #[.agg #[.int .i64 inp, .slice As ns cs, .slice Aa na ca, .slice Ao no co]] w fun e w' => e = .returned (.bool (netB inp ss ands outs)) ∧ Below w.heap.size w w' := by
 obtain ⟨l1, l2, l3, m1, m2, m3⟩ := h.lens
 have HB := Lib.hid hB
 have hk : NetR (w.alloc (.cells #[.int .i64 inp, .slice As ns cs, .slice Aa na ca, .slice Ao no co] 78)) S As ns cs ss Aa na ca ands Ao no co outs := h.keep (fun p hp => World.cell?_alloc_lt _ _ p (hS _ hp)) (fun _ h => h)
 have hS1 : ∀ b, S b → b < w.heap.size + 1 := fun b hb => by have := hS b hb; omega
 have Hl := Lib.hid (And.intro l1 (And.intro l2 l3))
 have Hr64 := Lib.hid hr64
 have Ha64 := Lib.hid ha64
 clear l1 l2 l3 m1 m2 m3 hB hr64 ha64
 go_enter Try.func109, Try.ntmps109
 go_wp2_with fail
 refine (s_NodeCount inp As Aa Ao ns cs na ca no co _).mono ?_
 rintro e w1 ⟨rfl, hb1⟩
 have HX1 := Lib.hid ((Blk.new w 78 #[.int .i64 inp, .slice As ns cs, .slice Aa na ca, .slice Ao no co]).below hb1 (by simp))
 have Hb1 := Lib.hid (((Below.refl w.heap.size w).alloc (Nat.le_refl _) (.cells #[.int .i64 inp, .slice As ns cs, .slice Aa na ca, .slice Ao no co] 78)).trans (hb1.mono (by simp)))
 have HN1 := Lib.hid (hk.under (fun b hb => by simpa using hS1 b hb) hb1)
 have z1 := hb1.size
 simp at z1
 clear hb1 hk
 obtain ⟨c, hc⟩ : ∃ c, c = ndc inp ns na no := ⟨_, rfl⟩
 rw [← hc]
 have Hc := Lib.hid hc
 clear hc
 obtain ⟨x0, x1, x2, x3⟩ := bk4 HX1.out
 by_cases h0 : c = 0
 ·go_wp2_with fail
  go_ret
  exact ⟨by rw [netB_no0 (by rw [Hl.out.1, Hl.out.2.1, Hl.out.2.2, ← Hc.out]; exact h0)]; rfl, Hb1.out⟩
 have Hib : Hid (0 ≤ inp ∧ inp ≤ 20 ∧ ns ≤ 12 ∧ na ≤ 300) := Lib.hid (by
  rcases Bool.eq_false_or_eq_true (inR inp 0 20 && (decide (ns ≤ 12) && (decide (na ≤ 300) && decide (no ≤ 16)))) with hh | hh
  ·simp only [Bool.and_eq_true, decide_eq_true_eq, inR_iff] at hh; omega
  ·exact absurd (by rw [Hc.out]; unfold ndc; rw [hh]; rfl) h0)
 have Hcb : Hid (0 ≤ c ∧ c ≤ 333) := Lib.hid (by
  rw [Hc.out]; unfold ndc; split
  ·rename_i hh; simp only [Bool.and_eq_true, decide_eq_true_eq, inR_iff] at hh; omega
  ·omega)
 have hns : ns ≤ 12 := Hib.out.2.2.1
 go_wp2_with fail
 rw [show (c == 0) = false by simpa using h0]
 go_loopw [4, 5] (fun iv _ wr => ∃ k : Nat, k ≤ ns ∧ iv = .int .i64 k ∧ Hid (∀ i s, i < k → ss[i]? = some s → seqB s.1 s.2.1 s.2.2.length = true) ∧ Below (w.heap.size + 1) w1 wr) (fun iv _ _ => ns - (intOf iv).toNat)
 case atStart => exact ⟨0, Nat.zero_le _, rfl, Lib.hid (fun i s hi => absurd hi (Nat.not_lt_zero _)), Below.refl _ _⟩
 case round =>
  obtain ⟨k, hk, rfl, Hok, hb⟩ := hrel
  have Hb := Lib.hid hb
  have zr := hb.size
  have HXr := Lib.hid (HX1.out.below hb (by omega))
  have HNr := Lib.hid (HN1.out.under hS1 hb)
  obtain ⟨y0, y1, y2, y3⟩ := bk4 HXr.out
  clear hb x0 x1 x2 x3
  by_cases hlt : k < ns
  ·obtain ⟨ad, a, b, l, A2, c2, rfl, hab, hx, hlm, hr2, e0, e1, e2⟩ := fSeqS_row HNr.out.1 hlt
   have hab1 := hS1 _ hab
   have g1 : (0 : Int) ≤ (k : Int) := by omega
   have g2 : (k : Int) < (ns : Int) := by omega
   have Hx := Lib.hid hx
   have Hb2 := Lib.hid (Hb.out.alloc (by omega) (.cells #[.int .i64 a, .int .i64 b, .slice A2 l.length c2] 139))
   clear hx hr2
   by_cases ha0 : a = 0
   ·subst ha0
    have He := Lib.hid (seqB0 b l.length)
    cases hX : inR b 0 1
    ·have HX := Lib.hid hX
     clear hX
     go_wp2_with (first | (go_at_call 85; refine (s_l01In _ _ _ _).mono ?_; rintro e w' ⟨rfl, rfl⟩; rw [HX.out]))
     go_ret
     exact ⟨by rw [netB_noS Hx.out (by simp only; rw [He.out, HX.out]; rfl)]; rfl, Hb1.out.trans (Hb2.out.mono (by omega))⟩
    ·have HX := Lib.hid hX
     clear hX
     by_cases hl1 : l.length = 1
     ·have HL := Lib.hid hl1
      have q1 : ((l.length : Int) == 1) = true := by simp; omega
      clear hl1
      go_wp2_with (first | (go_at_call 85; refine (s_l01In _ _ _ _).mono ?_; rintro e w' ⟨rfl, rfl⟩; rw [HX.out]))
      go_roundw
      case rel =>
       have Hn : Hid (∀ i s, i < k + 1 → ss[i]? = some s → seqB s.1 s.2.1 s.2.2.length = true) := Lib.hid (fun i s hi hs => by
        rcases Nat.lt_succ_iff_lt_or_eq.1 hi with h1 | h1
        ·exact Hok.out i s h1 hs
        ·subst h1; rw [Hx.out] at hs; cases hs; exact (by simp only; rw [He.out, HX.out, HL.out]; rfl))
       exact ⟨k + 1, by omega, by go_num, Hn, Hb2.out⟩
      case measure => simp [intOf]; omega
     ·have HL := Lib.hid hl1
      have q1 : ((l.length : Int) == 1) = false := by simp; omega
      clear hl1
      go_wp2_with (first | (go_at_call 85; refine (s_l01In _ _ _ _).mono ?_; rintro e w' ⟨rfl, rfl⟩; rw [HX.out]))
      go_ret
      exact ⟨by rw [netB_noS Hx.out (by simp only; rw [He.out, HX.out]; simpa using HL.out)]; rfl, Hb1.out.trans (Hb2.out.mono (by omega))⟩
   ·by_cases ha1 : a = 1
    ·subst ha1
     have He := Lib.hid (seqB1 b l.length)
     cases hX : inR b 0 31
     ·have HX := Lib.hid hX
      clear hX
      go_wp2_with (first | (go_at_call 85; refine (s_l01In _ _ _ _).mono ?_; rintro e w' ⟨rfl, rfl⟩; rw [HX.out]))
      go_ret
      exact ⟨by rw [netB_noS Hx.out (by simp only; rw [He.out, HX.out]; rfl)]; rfl, Hb1.out.trans (Hb2.out.mono (by omega))⟩
     ·have HX := Lib.hid hX
      clear hX
      by_cases hl1 : l.length = 4
      ·have HL := Lib.hid hl1
       have q1 : ((l.length : Int) == 4) = true := by simp; omega
       clear hl1
       go_wp2_with (first | (go_at_call 85; refine (s_l01In _ _ _ _).mono ?_; rintro e w' ⟨rfl, rfl⟩; rw [HX.out]))
       go_roundw
       case rel =>
        have Hn : Hid (∀ i s, i < k + 1 → ss[i]? = some s → seqB s.1 s.2.1 s.2.2.length = true) := Lib.hid (fun i s hi hs => by
         rcases Nat.lt_succ_iff_lt_or_eq.1 hi with h1 | h1
         ·exact Hok.out i s h1 hs
         ·subst h1; rw [Hx.out] at hs; cases hs; exact (by simp only; rw [He.out, HX.out, HL.out]; rfl))
        exact ⟨k + 1, by omega, by go_num, Hn, Hb2.out⟩
       case measure => simp [intOf]; omega
      ·have HL := Lib.hid hl1
       have q1 : ((l.length : Int) == 4) = false := by simp; omega
       clear hl1
       go_wp2_with (first | (go_at_call 85; refine (s_l01In _ _ _ _).mono ?_; rintro e w' ⟨rfl, rfl⟩; rw [HX.out]))
       go_ret
       exact ⟨by rw [netB_noS Hx.out (by simp only; rw [He.out, HX.out]; simpa using HL.out)]; rfl, Hb1.out.trans (Hb2.out.mono (by omega))⟩
    ·have He := Lib.hid (seqB_no (n := l.length) (i := b) ha0 ha1)
     have q0 : (a == 0) = false := by simpa using ha0
     have q1 : (a == 1) = false := by simpa using ha1
     clear ha0 ha1
     go_wp2_with (first | (go_at_call 85; refine (s_l01In _ _ _ _).mono ?_; rintro e w' ⟨rfl, rfl⟩; rw [He.out]))
     go_ret
     exact ⟨by rw [netB_noS Hx.out He.out]; rfl, Hb1.out.trans (Hb2.out.mono (by omega))⟩
  ·have hkn : (ns : Int) ≤ (k : Int) := by omega
   have hkn2 : k = ns := by omega
   have Hss := Lib.hid (show ∀ i s, i < ss.length → ss[i]? = some s → seqB s.1 s.2.1 s.2.2.length = true by rw [Hl.out.1, ← hkn2]; exact Hok.out)
   clear hkn2
   go_wp2_with fail
   refine (s_l08Roots inp HB.out HNr.out (fun b hb => by have := hS1 b hb; omega)).mono ?_
   rintro e w2 ⟨A5, c5, rfl, hown, hb2⟩
   have HO := Lib.hid hown
   have Hb2 := Lib.hid (Hb.out.trans (hb2.mono (by omega)))
   have z2 := hb2.size
   have HX2 := Lib.hid (HXr.out.below hb2 (by omega))
   have HN2 := Lib.hid (HN1.out.under hS1 Hb2.out)
   clear hown hb2 y0 y1 y2 y3
   obtain ⟨y0, y1, y2, y3⟩ := bk4 HX2.out
   obtain ⟨R, hR⟩ : ∃ R, R = rootsL outs ss := ⟨_, rfl⟩
   rw [← hR] at HO Hr64 ⊢
   have HR := Lib.hid hR
   clear hR
   obtain ⟨hc0, hc3⟩ := Hcb.out
   obtain ⟨N, hN⟩ : ∃ N, N = R.length := ⟨_, rfl⟩
   rw [← hN] at HO ⊢
   have RR := Lib.hid (Reads.of_own HO.out)
   have HN := Lib.hid hN
   have hNm : N ≤ 1048576 := by
    have h1 := roots_len outs ss
    have h2 := HB.out
    unfold NetB at h2
    rw [hN, HR.out]
    omega
   clear hN
   go_wp2_with fail
   go_loopw [7] (fun iv wr => ∃ k : Nat, k ≤ N ∧ iv = .int .i64 k ∧ Hid (∀ i x, i < k → R[i]? = some x → inR x 0 (2 * c - 1) = true) ∧ wr = w2) (fun iv _ => N - (intOf iv).toNat)
   case atStart => exact ⟨0, Nat.zero_le _, rfl, Lib.hid (fun i s hi => absurd hi (Nat.not_lt_zero _)), rfl⟩
   case round =>
    obtain ⟨j, hj, rfl, Hok2, rfl⟩ := hrel
    by_cases hlt2 : j < N
    ·obtain ⟨ad5, x, rfl, _, hx, e0⟩ := RR.out.int_at hlt2
     have g1 : (0 : Int) ≤ (j : Int) := by omega
     have g2 : (j : Int) < (N : Int) := by omega
     have hx64 := Hr64.out x (List.mem_of_getElem? hx)
     have Hx := Lib.hid hx
     clear hx
     go_wp2_with fail
     refine (s_l08Lit x c hx64 hc0 (by omega) _).mono ?_
     rintro e w9 ⟨rfl, rfl⟩
     obtain ⟨q, hq⟩ : ∃ q, q = inR x 0 (2 * c - 1) := ⟨_, rfl⟩
     rw [← hq]
     have Hq := Lib.hid hq
     clear hq
     cases q with
     | false =>
      go_wp2_with fail
      go_ret
      exact ⟨by rw [netB_noR (by rw [← HR.out]; exact Hx.out) (by rw [Hl.out.1, Hl.out.2.1, Hl.out.2.2, ← Hc.out]; exact Hq.out.symm)]; rfl, Hb1.out.trans (Hb2.out.mono (by omega))⟩
     | true =>
      go_wp2_with fail
      go_roundw
      case rel =>
       have Hn : Hid (∀ i x, i < j + 1 → R[i]? = some x → inR x 0 (2 * c - 1) = true) := Lib.hid (fun i s hi hs => by
        rcases Nat.lt_succ_iff_lt_or_eq.1 hi with h1 | h1
        ·exact Hok2.out i s h1 hs
        ·subst h1; rw [Hx.out] at hs; cases hs; exact Hq.out.symm)
       exact ⟨j + 1, by omega, by go_num, Hn, trivial⟩
      case measure => simp [intOf]; omega
    ·have hjn : (N : Int) ≤ (j : Int) := by omega
     have hjn2 : j = N := by omega
     have HRs := Lib.hid (show ∀ i x, i < R.length → R[i]? = some x → inR x 0 (2 * c - 1) = true by rw [← HN.out, ← hjn2]; exact Hok2.out)
     clear hjn2
     obtain ⟨hi0, hi20, hns12, hna⟩ := Hib.out
     have HA := Lib.hid (Rep.to_reads (B := w.heap.size + 1) eAnd_len (by decide) HN2.out.2.1 hS1)
     go_wp2_with fail
     go_loopw [8] (fun iv wx => ∃ k : Nat, k ≤ na ∧ iv = .int .i64 k ∧ Hid (∀ i x, i < k → ands[i]? = some x → andG (1 + inp + ns) i x = true) ∧ Below wr.heap.size wr wx) (fun iv _ => na - (intOf iv).toNat)
     case atStart => exact ⟨0, Nat.zero_le _, rfl, Lib.hid (fun i s hi => absurd hi (Nat.not_lt_zero _)), Below.refl _ _⟩
     case round =>
      obtain ⟨i, hi, rfl, Hok3, hb3⟩ := hrel
      have Hb3 := Lib.hid hb3
      have z3 := hb3.size
      have HX3 := Lib.hid (HX2.out.below hb3 (by omega))
      clear y0 y1 y2 y3 hb3
      obtain ⟨y0, y1, y2, y3⟩ := bk4 HX3.out
      by_cases hlt3 : i < na
      ·obtain ⟨ad6, a, b, rfl, hab, hx, f0, f1⟩ := HA.out.atAnd hlt3
       have e0 := (Hb3.out.cell (p := ad6.add (i * 2)) (by rw [block_of_add]; omega)).trans f0
       have e1 := (Hb3.out.cell (p := nxt (ad6.add (i * 2)) 1) (by rw [nxt_block]; omega)).trans f1
       have g1 : (0 : Int) ≤ (i : Int) := by omega
       have g2 : (i : Int) < (na : Int) := by omega
       have h64 := Ha64.out _ (List.mem_of_getElem? hx)
       simp only at h64
       have Hx := Lib.hid hx
       clear hx f0 f1
       have hlx := HX3.out.lt
       have Hb3d := Lib.hid ((Below.refl wr.heap.size wr).drew)
       cases hqa : inR a 0 (2 * (1 + inp + ns + i) - 1) with
       | false =>
        have Hq := Lib.hid hqa
        clear hqa
        go_wp2_with fail
        refine wp_region_lexC (by kernel_rfl) (by kernel_rfl) (fun x => Below wr.heap.size wr x) (Hb3d.out) (fun lexNE => ?_)
        obtain ⟨cX0, cX1, cX2, cX3⟩ := bw4 HX3.out hlx
        have r0 := fun W : Wd (fun x => Below wr.heap.size wr x) => (W.ok.cell (p := ad6.add (i * 2)) (by rw [block_of_add]; omega)).trans e0
        (repeat (first | (refine lex_r fun K hK => ?_; go_big_quiet_op; refine hK _ ?_; clear hK K) | (refine lex_k fun K hK => ?_; go_simp; refine hK _ ?_; clear hK K)))
        (refine lex_e fun K hK => ?_; go_big_op)
        refine (s_l08First inp hi0 hi20 As (some ad6) Ao ns cs na ca no co hns12 _).mono ?_
        rintro e w4 ⟨rfl, hb4⟩
        have H4 := Lib.hid (Hb3d.out.trans hb4)
        refine hK _ _ (Cls.mk' H4.out) ?_
        clear hK K hb4
        (repeat (first | (refine lex_r fun K hK => ?_; go_big_quiet_op; refine hK _ ?_; clear hK K) | (refine lex_k fun K hK => ?_; go_simp; refine hK _ ?_; clear hK K)))
        (refine lex_e fun K hK => ?_; go_big_op)
        refine (s_l08Lit a (1 + inp + ns + i) h64.1 (by omega) (by omega) _).mono ?_
        rintro e w5 ⟨rfl, rfl⟩
        rw [Hq.out]
        refine hK _ _ (Cls.mk' H4.out) ?_
        clear hK K
        (repeat (first | (refine lex_r fun K hK => ?_; go_big_quiet_op; refine hK _ ?_; clear hK K) | (refine lex_k fun K hK => ?_; go_simp; refine hK _ ?_; clear hK K)))
        (refine lex_nil ?_)
        clear lexNE cX0 cX1 cX2 cX3 r0
        go_wp2_with fail
        go_ret
        exact ⟨by rw [netB_noA Hx.out (by unfold andG; rw [Hl.out.1, Hq.out]; rfl)]; rfl, Hb1.out.trans ((Hb2.out.trans ((Hb3.out.trans (H4.out.mono z3)).mono (by omega))).mono (by omega))⟩
       | true =>
        have Hq := Lib.hid hqa
        clear hqa
        cases hqb : inR b 0 (2 * (1 + inp + ns + i) - 1) with
        | false =>
         have Hq2 := Lib.hid hqb
         clear hqb
         go_wp2_with fail
         refine wp_region_lexC (by kernel_rfl) (by kernel_rfl) (fun x => Below wr.heap.size wr x) (Hb3d.out) (fun lexNE => ?_)
         obtain ⟨cX0, cX1, cX2, cX3⟩ := bw4 HX3.out hlx
         have r0 := fun W : Wd (fun x => Below wr.heap.size wr x) => (W.ok.cell (p := ad6.add (i * 2)) (by rw [block_of_add]; omega)).trans e0
         have r1 := fun W : Wd (fun x => Below wr.heap.size wr x) => (W.ok.cell (p := nxt (ad6.add (i * 2)) 1) (by rw [nxt_block]; omega)).trans e1
         (repeat (first | (refine lex_r fun K hK => ?_; go_big_quiet_op; refine hK _ ?_; clear hK K) | (refine lex_k fun K hK => ?_; go_simp; refine hK _ ?_; clear hK K)))
         (refine lex_e fun K hK => ?_; go_big_op)
         refine (s_l08First inp hi0 hi20 As (some ad6) Ao ns cs na ca no co hns12 _).mono ?_
         rintro e w4 ⟨rfl, hb4⟩
         have H4 := Lib.hid (Hb3d.out.trans hb4)
         refine hK _ _ (Cls.mk' H4.out) ?_
         clear hK K hb4
         (repeat (first | (refine lex_r fun K hK => ?_; go_big_quiet_op; refine hK _ ?_; clear hK K) | (refine lex_k fun K hK => ?_; go_simp; refine hK _ ?_; clear hK K)))
         (refine lex_e fun K hK => ?_; go_big_op)
         refine (s_l08Lit a (1 + inp + ns + i) h64.1 (by omega) (by omega) _).mono ?_
         rintro e w5 ⟨rfl, rfl⟩
         rw [Hq.out]
         refine hK _ _ (Cls.mk' H4.out) ?_
         clear hK K
         (repeat (first | (refine lex_r fun K hK => ?_; go_big_quiet_op; refine hK _ ?_; clear hK K) | (refine lex_k fun K hK => ?_; go_simp; refine hK _ ?_; clear hK K)))
         (refine lex_e fun K hK => ?_; go_big_op)
         refine (s_l08First inp hi0 hi20 As (some ad6) Ao ns cs na ca no co hns12 _).mono ?_
         rintro e w6 ⟨rfl, hb6⟩
         have H6 := Lib.hid (H4.out.trans (hb6.mono H4.out.size))
         refine hK _ _ (Cls.mk' H6.out) ?_
         clear hK K hb6
         (repeat (first | (refine lex_r fun K hK => ?_; go_big_quiet_op; refine hK _ ?_; clear hK K) | (refine lex_k fun K hK => ?_; go_simp; refine hK _ ?_; clear hK K)))
         (refine lex_e fun K hK => ?_; go_big_op)
         refine (s_l08Lit b (1 + inp + ns + i) h64.2 (by omega) (by omega) _).mono ?_
         rintro e w7 ⟨rfl, rfl⟩
         rw [Hq2.out]
         refine hK _ _ (Cls.mk' H6.out) ?_
         clear hK K
         (repeat (first | (refine lex_r fun K hK => ?_; go_big_quiet_op; refine hK _ ?_; clear hK K) | (refine lex_k fun K hK => ?_; go_simp; refine hK _ ?_; clear hK K)))
         (refine lex_nil ?_)
         clear lexNE cX0 cX1 cX2 cX3 r0 r1
         go_wp2_with fail
         go_ret
         exact ⟨by rw [netB_noA Hx.out (by unfold andG; rw [Hl.out.1, Hq2.out]; simp)]; rfl, Hb1.out.trans ((Hb2.out.trans ((Hb3.out.trans (H6.out.mono z3)).mono (by omega))).mono (by omega))⟩
        | true =>
         have Hq2 := Lib.hid hqb
         clear hqb
         go_wp2_with fail
         refine wp_region_lexC (by kernel_rfl) (by kernel_rfl) (fun x => Below wr.heap.size wr x) (Hb3d.out) (fun lexNE => ?_)
         obtain ⟨cX0, cX1, cX2, cX3⟩ := bw4 HX3.out hlx
         have r0 := fun W : Wd (fun x => Below wr.heap.size wr x) => (W.ok.cell (p := ad6.add (i * 2)) (by rw [block_of_add]; omega)).trans e0
         have r1 := fun W : Wd (fun x => Below wr.heap.size wr x) => (W.ok.cell (p := nxt (ad6.add (i * 2)) 1) (by rw [nxt_block]; omega)).trans e1
         (repeat (first | (refine lex_r fun K hK => ?_; go_big_quiet_op; refine hK _ ?_; clear hK K) | (refine lex_k fun K hK => ?_; go_simp; refine hK _ ?_; clear hK K)))
         (refine lex_e fun K hK => ?_; go_big_op)
         refine (s_l08First inp hi0 hi20 As (some ad6) Ao ns cs na ca no co hns12 _).mono ?_
         rintro e w4 ⟨rfl, hb4⟩
         have H4 := Lib.hid (Hb3d.out.trans hb4)
         refine hK _ _ (Cls.mk' H4.out) ?_
         clear hK K hb4
         (repeat (first | (refine lex_r fun K hK => ?_; go_big_quiet_op; refine hK _ ?_; clear hK K) | (refine lex_k fun K hK => ?_; go_simp; refine hK _ ?_; clear hK K)))
         (refine lex_e fun K hK => ?_; go_big_op)
         refine (s_l08Lit a (1 + inp + ns + i) h64.1 (by omega) (by omega) _).mono ?_
         rintro e w5 ⟨rfl, rfl⟩
         rw [Hq.out]
         refine hK _ _ (Cls.mk' H4.out) ?_
         clear hK K
         (repeat (first | (refine lex_r fun K hK => ?_; go_big_quiet_op; refine hK _ ?_; clear hK K) | (refine lex_k fun K hK => ?_; go_simp; refine hK _ ?_; clear hK K)))
         (refine lex_e fun K hK => ?_; go_big_op)
         refine (s_l08First inp hi0 hi20 As (some ad6) Ao ns cs na ca no co hns12 _).mono ?_
         rintro e w6 ⟨rfl, hb6⟩
         have H6 := Lib.hid (H4.out.trans (hb6.mono H4.out.size))
         refine hK _ _ (Cls.mk' H6.out) ?_
         clear hK K hb6
         (repeat (first | (refine lex_r fun K hK => ?_; go_big_quiet_op; refine hK _ ?_; clear hK K) | (refine lex_k fun K hK => ?_; go_simp; refine hK _ ?_; clear hK K)))
         (refine lex_e fun K hK => ?_; go_big_op)
         refine (s_l08Lit b (1 + inp + ns + i) h64.2 (by omega) (by omega) _).mono ?_
         rintro e w7 ⟨rfl, rfl⟩
         rw [Hq2.out]
         refine hK _ _ (Cls.mk' H6.out) ?_
         clear hK K
         (repeat (first | (refine lex_r fun K hK => ?_; go_big_quiet_op; refine hK _ ?_; clear hK K) | (refine lex_k fun K hK => ?_; go_simp; refine hK _ ?_; clear hK K)))
         (refine lex_nil ?_)
         clear lexNE cX0 cX1 cX2 cX3 r0 r1
         go_wp2_with fail
         go_roundw
         case rel =>
          have Hn : Hid (∀ k x, k < i + 1 → ands[k]? = some x → andG (1 + inp + ns) k x = true) := Lib.hid (fun k s hi hs => by
           rcases Nat.lt_succ_iff_lt_or_eq.1 hi with h1 | h1
           ·exact Hok3.out k s h1 hs
           ·subst h1; rw [Hx.out] at hs; cases hs; unfold andG; rw [Hq.out, Hq2.out]; rfl)
          exact ⟨i + 1, by omega, by go_num, Hn, Hb3.out.trans (H6.out.mono z3)⟩
         case measure => simp [intOf]; omega
      ·have hin : (na : Int) ≤ (i : Int) := by omega
       have hin2 : i = na := by omega
       have HAs := Lib.hid (show ∀ k x, k < ands.length → ands[k]? = some x → andG (1 + inp + ss.length) k x = true by rw [Hl.out.2.1, Hl.out.1, ← hin2]; exact Hok3.out)
       clear hin2
       go_wp2_with fail
       go_ret
       exact ⟨by rw [netB_yes (by rw [Hl.out.1, Hl.out.2.1, Hl.out.2.2, ← Hc.out]; exact h0) Hss.out (by rw [← HR.out, Hl.out.1, Hl.out.2.1, Hl.out.2.2, ← Hc.out]; exact HRs.out) HAs.out]; rfl, Hb1.out.trans ((Hb2.out.trans (Hb3.out.mono (by omega))).mono (by omega))⟩
end Go.Proofs.Ytlkjdhjeecogjaa
