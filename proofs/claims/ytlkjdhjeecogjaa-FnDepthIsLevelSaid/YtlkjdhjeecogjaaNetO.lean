/- Contracts: nets: when a net is valid: the program's function. -/
import Derived.Test.YtlkjdhjeecogjaaNetL
import Derived.Outline
namespace Go.Proofs.Ytlkjdhjeecogjaa
open Go.RowKit

theorem bk4 {w : World} {g : Nat} {t : TypeId} {a b c d : Value} (h : Blk w g t #[a, b, c, d]) : w.cell? ⟨g, 0, none⟩ = some a ∧ w.cell? ⟨g, 1, none⟩ = some b ∧ w.cell? ⟨g, 2, none⟩ = some c ∧ w.cell? ⟨g, 3, none⟩ = some d := ⟨h.cell 0, h.cell 1, h.cell 2, h.cell 3⟩

set_option maxRecDepth 100000 in
set_option maxHeartbeats 4000000 in
theorem i_NetOk (inp : Int) {w : World} {S : Nat → Prop} {As Aa Ao : Option Addr} {ns cs na ca no co : Nat} {ss : List Seq3} {ands : List (Int × Int)} {outs : List Int} (hB : NetB ss ands outs) (h : NetR w S As ns cs ss Aa na ca ands Ao no co outs) (hS : ∀ b, S b → b < w.heap.size) :
  Calls Try.prog 41 #[.agg #[.int .i64 inp, .slice As ns cs, .slice Aa na ca, .slice Ao no co]] w fun e w' => e = .returned (.bool (netB inp ss ands outs)) ∧ Below w.heap.size w w' := by
 obtain ⟨l1, l2, l3, m1, m2, m3⟩ := h.lens
 have HB := Lib.hid hB
 have hk : NetR (w.alloc (.cells #[.int .i64 inp, .slice As ns cs, .slice Aa na ca, .slice Ao no co] 78)) S As ns cs ss Aa na ca ands Ao no co outs := h.keep (fun p hp => World.cell?_alloc_lt _ _ p (hS _ hp)) (fun _ h => h)
 have hS1 : ∀ b, S b → b < w.heap.size + 1 := fun b hb => by have := hS b hb; omega
 have Hl := Lib.hid (And.intro l1 (And.intro l2 l3))
 have Hm := Lib.hid (And.intro m1 (And.intro m2 m3))
 clear l1 l2 l3 m1 m2 m3 hB
 go_enter Try.func41, Try.ntmps41
 go_wp2_with fail
 refine (i_NodeCount inp As Aa Ao ns cs na ca no co _).mono ?_
 rintro e w1 ⟨rfl, hb1⟩
 have HX1 := Lib.hid ((Blk.new w 78 #[.int .i64 inp, .slice As ns cs, .slice Aa na ca, .slice Ao no co]).below hb1 (by simp))
 have Hb1 := Lib.hid (((Below.refl w.heap.size w).alloc (Nat.le_refl _) (.cells #[.int .i64 inp, .slice As ns cs, .slice Aa na ca, .slice Ao no co] 78)).trans (hb1.mono (by simp)))
 have HN1 := Lib.hid (hk.under (fun b hb => by simpa using hS1 b hb) hb1)
 have z1 := hb1.size
 simp at z1
 clear hb1 hk
 obtain ⟨c, hc⟩ : ∃ c, c = ndc inp ns na no := ⟨_, rfl⟩
 rw [← hc]
 have Hc := Lib.hid hc
 clear hc
 obtain ⟨x0, x1, x2, x3⟩ := bk4 HX1.out
 by_cases h0 : c = 0
 ·go_wp2_with fail
  go_ret
  exact ⟨by rw [netB_no0 (by rw [Hl.out.1, Hl.out.2.1, Hl.out.2.2, ← Hc.out]; exact h0)]; rfl, Hb1.out⟩
 have hns : ns ≤ 12 := by
  rcases Nat.lt_or_ge 12 ns with hgt | hle
  ·exact absurd (by rw [Hc.out]; unfold ndc; rw [if_neg]; simp; omega) h0
  ·exact hle
 go_wp2_with fail
 rw [show (c == 0) = false by simpa using h0]
 go_loopw [5, 18] (fun _ iv wr => ∃ k : Nat, k ≤ ns ∧ iv = .int .i64 k ∧ Hid (∀ i s, i < k → ss[i]? = some s → seqB s.1 s.2.1 s.2.2.length = true) ∧ Below (w.heap.size + 1) w1 wr) (fun _ iv _ => ns - (intOf iv).toNat)
 case atStart => exact ⟨0, Nat.zero_le _, rfl, Lib.hid (fun i s hi => absurd hi (Nat.not_lt_zero _)), Below.refl _ _⟩
 case round =>
  obtain ⟨k, hk, rfl, Hok, hb⟩ := hrel
  have Hb := Lib.hid hb
  have zr := hb.size
  have HXr := Lib.hid (HX1.out.below hb (by omega))
  have HNr := Lib.hid (HN1.out.under hS1 hb)
  obtain ⟨y0, y1, y2, y3⟩ := bk4 HXr.out
  clear hb x0 x1 x2 x3
  by_cases hlt : k < ns
  ·obtain ⟨ad, a, b, l, A2, c2, rfl, hab, hx, hlm, hr2, e0, e1, e2⟩ := fSeqS_row HNr.out.1 hlt
   have hab1 := hS1 _ hab
   have g1 : (0 : Int) ≤ (k : Int) := by omega
   have g2 : (k : Int) < (ns : Int) := by omega
   have Hx := Lib.hid hx
   clear hx hr2
   go_wp2_with fail
   refine (i_seqOk a b A2 l.length c2 _).mono ?_
   rintro e w2 ⟨rfl, hb2⟩
   have z2 := hb2.size
   simp at z2
   have Hb2 := Lib.hid ((Hb.out.alloc (by omega) (.cells #[.int .i64 a, .int .i64 b, .slice A2 l.length c2] 139)).trans (hb2.mono (by simp; omega)))
   have HX2 := Lib.hid (HX1.out.below Hb2.out (by omega))
   clear hb2 y0 y1 y2 y3 e0 e1 e2
   obtain ⟨q, hq⟩ : ∃ q, q = seqB a b l.length := ⟨_, rfl⟩
   rw [← hq]
   have Hq := Lib.hid hq
   clear hq
   cases q with
   | false =>
    go_wp2_with fail
    go_ret
    exact ⟨by rw [netB_noS Hx.out Hq.out.symm]; rfl, Hb1.out.trans (Hb2.out.mono (by omega))⟩
   | true =>
    go_wp2_with fail
    go_roundw
    case rel =>
     have Hn : Hid (∀ i s, i < k + 1 → ss[i]? = some s → seqB s.1 s.2.1 s.2.2.length = true) := Lib.hid (fun i s hi hs => by
      rcases Nat.lt_succ_iff_lt_or_eq.1 hi with h1 | h1
      ·exact Hok.out i s h1 hs
      ·subst h1; rw [Hx.out] at hs; cases hs; exact Hq.out.symm)
     exact ⟨k + 1, by omega, by go_num, Hn, Hb2.out⟩
    case measure => simp [intOf]; omega
  ·have hkn : (ns : Int) ≤ (k : Int) := by omega
   have hkn2 : k = ns := by omega
   have Hss := Lib.hid (show ∀ i s, i < ss.length → ss[i]? = some s → seqB s.1 s.2.1 s.2.2.length = true by rw [Hl.out.1, ← hkn2]; exact Hok.out)
   clear hkn2
   go_wp2_with fail
   refine (i_roots inp HB.out HNr.out (fun b hb => by have := hS1 b hb; omega)).mono ?_
   rintro e w2 ⟨A5, c5, rfl, hown, hb2⟩
   have HO := Lib.hid hown
   have Hb2 := Lib.hid (Hb.out.trans (hb2.mono (by omega)))
   have z2 := hb2.size
   have HX2 := Lib.hid (HXr.out.below hb2 (by omega))
   have HN2 := Lib.hid (HN1.out.under hS1 Hb2.out)
   clear hown hb2 y0 y1 y2 y3
   obtain ⟨y0, y1, y2, y3⟩ := bk4 HX2.out
   obtain ⟨R, hR⟩ : ∃ R, R = rootsL outs ss := ⟨_, rfl⟩
   rw [← hR] at HO ⊢
   have HR := Lib.hid hR
   clear hR
   have Hcb : 0 ≤ c ∧ c ≤ 333 := by
    rw [Hc.out]; unfold ndc; split
    ·rename_i hh; simp only [Bool.and_eq_true, decide_eq_true_eq, inR_iff] at hh; omega
    ·omega
   obtain ⟨hc0, hc3⟩ := Hcb
   obtain ⟨N, hN⟩ : ∃ N, N = R.length := ⟨_, rfl⟩
   rw [← hN] at HO ⊢
   have RR := Lib.hid (Reads.of_own HO.out)
   have HN := Lib.hid hN
   have hNm : N ≤ 1048576 := by
    have h1 := roots_len outs ss
    have h2 := HB.out
    unfold NetB at h2
    rw [hN, HR.out]
    omega
   clear hN
   go_wp2_with fail
   go_loopw [7, 29] (fun _ iv wr => ∃ k : Nat, k ≤ N ∧ iv = .int .i64 k ∧ Hid (∀ i x, i < k → R[i]? = some x → inR x 0 (2 * c - 1) = true) ∧ wr = w2) (fun _ iv _ => N - (intOf iv).toNat)
   case atStart => exact ⟨0, Nat.zero_le _, rfl, Lib.hid (fun i s hi => absurd hi (Nat.not_lt_zero _)), rfl⟩
   case round =>
    obtain ⟨j, hj, rfl, Hok2, rfl⟩ := hrel
    by_cases hlt2 : j < N
    ·obtain ⟨ad5, x, rfl, _, hx, e0⟩ := RR.out.int_at hlt2
     have g1 : (0 : Int) ≤ (j : Int) := by omega
     have g2 : (j : Int) < (N : Int) := by omega
     have Hx := Lib.hid hx
     clear hx
     go_wp2_with fail
     refine (i_inRange x 0 (2 * c - 1) _).mono ?_
     rintro e w9 ⟨rfl, rfl⟩
     obtain ⟨q, hq⟩ : ∃ q, q = inR x 0 (2 * c - 1) := ⟨_, rfl⟩
     rw [← hq]
     have Hq := Lib.hid hq
     clear hq
     cases q with
     | false =>
      go_wp2_with fail
      go_ret
      exact ⟨by rw [netB_noR (by rw [← HR.out]; exact Hx.out) (by rw [Hl.out.1, Hl.out.2.1, Hl.out.2.2, ← Hc.out]; exact Hq.out.symm)]; rfl, Hb1.out.trans (Hb2.out.mono (by omega))⟩
     | true =>
      go_wp2_with fail
      go_roundw
      case rel =>
       have Hn : Hid (∀ i x, i < j + 1 → R[i]? = some x → inR x 0 (2 * c - 1) = true) := Lib.hid (fun i s hi hs => by
        rcases Nat.lt_succ_iff_lt_or_eq.1 hi with h1 | h1
        ·exact Hok2.out i s h1 hs
        ·subst h1; rw [Hx.out] at hs; cases hs; exact Hq.out.symm)
       exact ⟨j + 1, by omega, by go_num, Hn, trivial⟩
      case measure => simp [intOf]; omega
    ·have hjn : (N : Int) ≤ (j : Int) := by omega
     have hjn2 : j = N := by omega
     have HRs := Lib.hid (show ∀ i x, i < R.length → R[i]? = some x → inR x 0 (2 * c - 1) = true by rw [← HN.out, ← hjn2]; exact Hok2.out)
     clear hjn2
     have Hib : 0 ≤ inp ∧ inp ≤ 20 ∧ ns ≤ 12 ∧ na ≤ 300 := by
      rcases Bool.eq_false_or_eq_true (inR inp 0 20 && (decide (ns ≤ 12) && (decide (na ≤ 300) && decide (no ≤ 16)))) with hh | hh
      ·simp only [Bool.and_eq_true, decide_eq_true_eq, inR_iff] at hh; omega
      ·exact absurd (by rw [Hc.out]; unfold ndc; rw [hh]; rfl) h0
     obtain ⟨hi0, hi20, hns12, hna⟩ := Hib
     have HA := Lib.hid (Rep.to_reads (B := w.heap.size + 1) eAnd_len (by decide) HN2.out.2.1 hS1)
     go_wp2_with fail
     go_loopw [8, 9, 10, 43] (fun _ _ _ iv wx => ∃ k : Nat, k ≤ na ∧ iv = .int .i64 k ∧ Hid (∀ i x, i < k → ands[i]? = some x → andG (1 + inp + ns) i x = true) ∧ Below (w.heap.size + 1) wr wx) (fun _ _ _ iv _ => na - (intOf iv).toNat)
     case atStart => exact ⟨0, Nat.zero_le _, rfl, Lib.hid (fun i s hi => absurd hi (Nat.not_lt_zero _)), Below.refl _ _⟩
     case round =>
      obtain ⟨i, hi, rfl, Hok3, hb3⟩ := hrel
      have Hb3 := Lib.hid hb3
      have z3 := hb3.size
      have HX3 := Lib.hid (HX2.out.below hb3 (by omega))
      clear y0 y1 y2 y3 hb3
      obtain ⟨y0, y1, y2, y3⟩ := bk4 HX3.out
      by_cases hlt3 : i < na
      ·obtain ⟨ad6, a, b, rfl, hab, hx, f0, f1⟩ := HA.out.atAnd hlt3
       have e0 := (Hb3.out.cell (p := ad6.add (i * 2)) (by rw [block_of_add]; omega)).trans f0
       have e1 := (Hb3.out.cell (p := nxt (ad6.add (i * 2)) 1) (by rw [nxt_block]; omega)).trans f1
       have g1 : (0 : Int) ≤ (i : Int) := by omega
       have g2 : (i : Int) < (na : Int) := by omega
       have Hx := Lib.hid hx
       clear hx f0 f1
       obtain ⟨q0, q1, q2, q3⟩ := bk4 (HX3.out.alloc (.cells #[.int .i64 a, .int .i64 b] 87))
       go_wp2_with fail
       refine (i_firstAnd inp hi0 hi20 As (some ad6) Ao ns cs na ca no co hns12 _).mono ?_
       rintro e w4 ⟨rfl, hb4⟩
       have z4 := hb4.size
       simp at z4
       have Hb4 := Lib.hid ((Hb3.out.alloc (by omega) (.cells #[.int .i64 a, .int .i64 b] 87)).trans (hb4.mono (by simp; omega)))
       have HY := Lib.hid ((Blk.new wr 87 #[.int .i64 a, .int .i64 b]).below hb4 (by simp))
       clear y0 y1 y2 y3 q0 q1 q2 q3 e0 e1 hb4
       have r0 := HY.out.cell 0
       have r1 := HY.out.cell 1
       simp only [List.getElem?_toArray, List.getElem?_cons_zero, List.getElem?_cons_succ] at r0 r1
       go_wp2_with fail
       refine (i_inRange a 0 (2 * (1 + inp + ns + i) - 1) _).mono ?_
       rintro e w9 ⟨rfl, rfl⟩
       obtain ⟨q, hq⟩ : ∃ q, q = inR a 0 (2 * (1 + inp + ns + i) - 1) := ⟨_, rfl⟩
       rw [← hq]
       have Hq := Lib.hid hq
       clear hq
       cases q with
       | false =>
        go_wp2_with fail
        go_ret
        exact ⟨by rw [netB_noA Hx.out (by unfold andG; rw [Hl.out.1, ← Hq.out]; rfl)]; rfl, Hb1.out.trans ((Hb2.out.trans Hb4.out).mono (by omega))⟩
       | true =>
        go_wp2_with fail
        refine (i_inRange b 0 (2 * (1 + inp + ns + i) - 1) _).mono ?_
        rintro e w10 ⟨rfl, rfl⟩
        obtain ⟨q2, hq2⟩ : ∃ q2, q2 = inR b 0 (2 * (1 + inp + ns + i) - 1) := ⟨_, rfl⟩
        rw [← hq2]
        have Hq2 := Lib.hid hq2
        clear hq2
        cases q2 with
        | false =>
         go_wp2_with fail
         go_ret
         exact ⟨by rw [netB_noA Hx.out (by unfold andG; rw [Hl.out.1, ← Hq2.out]; simp)]; rfl, Hb1.out.trans ((Hb2.out.trans Hb4.out).mono (by omega))⟩
        | true =>
         go_wp2_with fail
         go_roundw
         case rel =>
          have Hn : Hid (∀ k x, k < i + 1 → ands[k]? = some x → andG (1 + inp + ns) k x = true) := Lib.hid (fun k s hi hs => by
           rcases Nat.lt_succ_iff_lt_or_eq.1 hi with h1 | h1
           ·exact Hok3.out k s h1 hs
           ·subst h1; rw [Hx.out] at hs; cases hs; unfold andG; rw [← Hq.out, ← Hq2.out]; rfl)
          exact ⟨i + 1, by omega, by go_num, Hn, Hb4.out⟩
         case measure => simp [intOf]; omega
      ·have hin : (na : Int) ≤ (i : Int) := by omega
       have hin2 : i = na := by omega
       have HAs := Lib.hid (show ∀ k x, k < ands.length → ands[k]? = some x → andG (1 + inp + ss.length) k x = true by rw [Hl.out.2.1, Hl.out.1, ← hin2]; exact Hok3.out)
       clear hin2
       go_wp2_with fail
       go_ret
       exact ⟨by rw [netB_yes (by rw [Hl.out.1, Hl.out.2.1, Hl.out.2.2, ← Hc.out]; exact h0) Hss.out (by rw [← HR.out, Hl.out.1, Hl.out.2.1, Hl.out.2.2, ← Hc.out]; exact HRs.out) HAs.out]; rfl, Hb1.out.trans ((Hb2.out.trans Hb3.out).mono (by omega))⟩
end Go.Proofs.Ytlkjdhjeecogjaa
