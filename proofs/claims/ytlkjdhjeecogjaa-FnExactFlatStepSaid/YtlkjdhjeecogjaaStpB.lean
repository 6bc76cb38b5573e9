/- Contracts: the outputs' values: the program's inner function. -/
import Derived.Test.YtlkjdhjeecogjaaStpP
import Derived.Test.YtlkjdhjeecogjaaSigB
import Derived.Outline
namespace Go.Proofs.Ytlkjdhjeecogjaa
open Go.RowKit

set_option maxRecDepth 100000 in
set_option maxHeartbeats 8000000 in
theorem i_outputValues {w : World} {S S4 : Nat → Prop} {v : Value} {Av : Option Addr} {cv : Nat} {m : TModule} {VS : List Nat} (hn30 : m.1.length ≤ 30) (hvl : VS.length = m.1.length)
  (h : RModule w S v m) (hS : ∀ b, S b → b < w.heap.size) (hin : Rep w S4 (.slice Av VS.length cv) (fIntS (nI VS))) (hS4 : ∀ b, S4 b → b < w.heap.size) :
  Calls Try.prog 66 #[v, .slice Av VS.length cv] w fun e w' => ∃ v', e = .returned v' ∧ QIntS w' (New w w') v' (outV m VS) ∧ Below w.heap.size w w' := by
 obtain ⟨i0, hi, hz0, hz1, hz2⟩ := info_parts Try.infoIntC
 have Hin := Lib.hid hin
 have Hvl := Lib.hid hvl
 clear hin
 obtain ⟨A0, c0, A1, c1, A2, c2, A3, c3, rfl, hSg, hAs, -, hMe, hm0, hm1, hm2, hm3⟩ := mod_open h
 obtain ⟨ns, hns⟩ : ∃ ns, m.1.length = ns := ⟨_, rfl⟩
 obtain ⟨na, hna⟩ : ∃ na, m.2.1.length = na := ⟨_, rfl⟩
 obtain ⟨ni, hni⟩ : ∃ ni, m.2.2.1.length = ni := ⟨_, rfl⟩
 obtain ⟨nm, hnm⟩ : ∃ nm, m.2.2.2.length = nm := ⟨_, rfl⟩
 rw [hns, hna, hni, hnm] at h ⊢
 rw [hns] at hSg hm0
 rw [hna] at hAs hm1
 rw [hni] at hm2
 rw [hnm] at hMe hm3
 unfold maxLen at hm0 hm1 hm2 hm3
 have Hn := Lib.hid (And.intro hns (And.intro hna (And.intro hni hnm)))
 have H := Lib.hid h
 have HSg := Lib.hid hSg
 have HAs := Lib.hid hAs
 have HMe := Lib.hid hMe
 have HB0 := Lib.hid ((Below.refl w.heap.size w).alloc (Nat.le_refl _) (.cells #[.slice A0 ns c0, .slice A1 na c1, .slice A2 ni c2, .slice A3 nm c3] 41))
 have HX0 := Lib.hid (Blk.new w 41 #[.slice A0 ns c0, .slice A1 na c1, .slice A2 ni c2, .slice A3 nm c3])
 clear hns hna hnm hni h hSg hAs hMe
 rw [Hn.out.1] at hn30 hvl
 rw [hvl] at Hin ⊢
 clear hvl
 go_enter Try.func66, Try.ntmps66
 go_wp2_with fail
 obtain ⟨U0, hU0⟩ : ∃ U0, U0 = w.alloc (.cells #[.slice A0 ns c0, .slice A1 na c1, .slice A2 ni c2, .slice A3 nm c3] 41) := ⟨_, rfl⟩
 rw [← hU0] at HB0 HX0 ⊢
 have hz1u : w.heap.size + 1 = U0.heap.size := by rw [hU0]; simp
 have HZ := Lib.hid hz1u
 clear hU0 hz1u
 go_loopw [5, 6, 7, 11] (fun ov _ _ iv wr => ∃ k : Nat, k ≤ ns ∧ iv = .int .i64 k ∧ wr.ownsRow U0.heap.size 3 1 ov (outK m VS k).length (ints (outK m VS k)) ∧ Below U0.heap.size U0 wr) (fun _ _ _ iv _ => ns - (intOf iv).toNat)
 case atStart => exact ⟨0, Nat.zero_le _, rfl, World.ownsRow_nil _ _ _ _, Below.refl _ _⟩
 case round =>
  obtain ⟨k, hk, rfl, hown, hb⟩ := hrel
  have Hb := Lib.hid hb
  have hzu : w.heap.size < U0.heap.size := by have := HZ.out; omega
  have Hbw := Lib.hid (HB0.out.trans (hb.mono (by omega)))
  have hsz := hb.size
  have hlk := outK_len m VS k
  have HXr := Lib.hid (HX0.out.below hb (by omega))
  obtain ⟨y0, y1, y2, y3⟩ := blkS4 HXr.out
  obtain ⟨L, hL⟩ : ∃ L, L = outK m VS k := ⟨_, rfl⟩
  rw [← hL] at hown hlk
  obtain ⟨A, c, rfl, _, _, _⟩ := own_form hown
  have HL := Lib.hid hL
  have Hown := Lib.hid hown
  have gk : (0 : Int) ≤ (k : Int) := by omega
  clear hb hown hL
  by_cases hlt : k < ns
  ·obtain ⟨ad, x0, x1, x2, rfl, hab, hx, e0, e1, e2⟩ := fSignalS_row (HSg.out.under hS Hbw.out) hlt
   have g2 : (k : Int) < (ns : Int) := by omega
   have Hown1 := Lib.hid (Hown.out.alloc (.cells #[.int .i64 x0, .int .i64 x1, .int .i64 x2] 99))
   have Hb1 := Lib.hid (Hb.out.alloc (by omega) (.cells #[.int .i64 x0, .int .i64 x1, .int .i64 x2] 99))
   by_cases h1 : x0 = 1
   ·subst h1
    obtain ⟨adv, xv, rfl, habv, hxv, ev⟩ := rep_nat_at (Hin.out.under hS4 Hbw.out) hlt
    have hbv : adv.block < wr.heap.size := by have := hS4 _ habv; omega
    have ev' : (wr.alloc (.cells #[.int .i64 1, .int .i64 x1, .int .i64 x2] 99)).cell? (adv.add k) = some (.int .i64 (xv : Int)) := (World.cell?_alloc_lt _ _ (adv.add k) (by rw [block_of_add]; exact hbv)).trans ev
    have Hs := Lib.hid (show outK m VS (k + 1) = L ++ [(xv : Int)] by rw [outK_yes (kindAt_get hx), HL.out]; simp [List.getD, hxv])
    clear hx hxv ev
    go_wp2_with (at_builtin; refine wpList_append_any _ rfl _ _ 28 rfl (U0.heap.size) 3 i0 (.int .i64 0) 1 8 Try.underlying28 hi hz0 hz1 hz2 rfl (by decide) _ _ _ rfl (Hown1.out.alloc _) _ _ 1 1 _ rfl (reads_new1 _ _ _ 1 1 rfl) (by intro u hu; simp at hu; first | (subst hu; rfl) | (rcases hu with rfl | rfl <;> rfl) | (rcases hu with rfl | rfl | rfl <;> rfl)) (by unfold maxLen; omega) (by omega) (by (try simp) <;> (try omega)) ?_; intro v2 w2 hown2 hgrow2 hblk2)
    have hb2 := below_push Hb1.out Hown1.out (Nat.le_refl _) (by simp; omega) hgrow2
    have Hown2 := Lib.hid hown2
    clear hown2 hgrow2 hblk2
    go_wp2_with fail
    go_roundw
    case rel => exact ⟨k + 1, by omega, by go_num, by rw [Hs.out, List.length_append, ints_app]; exact Hown2.out, hb2⟩
    case measure => simp [intOf]; omega
   ·have q1 : (x0 == 1) = false := by simpa using h1
    have Hs := Lib.hid (show outK m VS (k + 1) = L by rw [outK_no (by rw [kindAt_get hx]; exact h1), HL.out])
    clear h1 hx
    go_wp2_with fail
    go_roundw
    case rel => exact ⟨k + 1, by omega, by go_num, by rw [Hs.out]; exact Hown1.out, Hb1.out⟩
    case measure => simp [intOf]; omega
  ·have hkn : k = ns := by omega
   have HE := Lib.hid (show L = outV m VS by rw [HL.out, hkn, ← Hn.out.1]; rfl)
   have hge : (ns : Int) ≤ (k : Int) := by omega
   clear hkn
   go_wp2_with fail
   go_ret
   refine ⟨_, rfl, ?_, Hbw.out⟩
   have hO := Hown.out
   rw [← HE.out]
   exact sep_ints (by unfold maxLen; omega) hO (fun g hg => ⟨by have := (hO.lt g hg).1; omega, (hO.lt g hg).2⟩)
end Go.Proofs.Ytlkjdhjeecogjaa
