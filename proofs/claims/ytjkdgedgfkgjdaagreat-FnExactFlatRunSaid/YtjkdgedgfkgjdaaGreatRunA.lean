/- Contracts: the outputs of all cycles: the program's function. -/
import Derived.Test.YtjkdgedgfkgjdaaGreatTrcA
import Derived.Outline
namespace Go.Proofs.YtjkdgedgfkgjdaaGreat
open Go.RowKit

theorem runL_at {m : TModule} {ins : List (List Int)} {n : Nat} (h : (trcL m ins).length = n) : runL m ins = runK m ins n ∧ n ≤ 16 := by
 unfold trcL at h
 unfold runL
 split at h
 ·rename_i hr
  rw [trcK_len] at h
  rw [if_pos hr, h]
  exact ⟨rfl, by rw [← h]; exact (runB_iff hr).2.1⟩
 ·rename_i hr
  obtain rfl : n = 0 := by simpa using h.symm
  rw [if_neg hr]
  exact ⟨rfl, Nat.zero_le _⟩
theorem trcL_row {m : TModule} {ins : List (List Int)} {k : Nat} {x : List Int} (h : (trcL m ins)[k]? = some x) : runB m ins = true ∧ x = nI (cycV m ins k) := by
 unfold trcL at h
 split at h
 ·rename_i hr
  refine ⟨hr, ?_⟩
  have hk := (List.getElem?_eq_some_iff.1 h).1
  rw [trcK_len] at hk
  unfold trcK at h
  rw [List.getElem?_map, List.getElem?_range hk] at h
  simpa using h.symm
 ·simp at h
theorem cycV_len {m : TModule} (ins : List (List Int)) (k : Nat) : (cycV m ins k).length = m.1.length := sigN_len _ _
set_option maxRecDepth 100000 in
set_option maxHeartbeats 8000000 in
theorem i_FlatRun {w : World} {S S4 : Nat → Prop} {v : Value} {Ai : Option Addr} {nx ci : Nat} {m : TModule} {ins : List (List Int)} (hz : sModule m ≤ 1048576)
  (h : RModule w S v m) (hS : ∀ b, S b → b < w.heap.size) (hin : Rep w S4 (.slice Ai nx ci) (fIntSS ins)) (hS4 : ∀ b, S4 b → b < w.heap.size) :
  Calls Tryz.prog 9 #[v, .slice Ai nx ci] w fun e w' => ∃ v', e = .returned v' ∧ Sep w' (New w w') v' (fIntSS (runL m ins)) ∧ Below w.heap.size w w' := by
 obtain ⟨i0, hi, hz0, hz1, hz2⟩ := info_parts Tryz.infIntS
 have Hins := Lib.hid hin
 clear hin
 obtain ⟨A0, c0, A1, c1, A2, c2, A3, c3, rfl, hSg, hAs, -, hMe, hm0, hm1, hm2, hm3⟩ := mod_open h
 obtain ⟨ns, hns⟩ : ∃ ns, m.1.length = ns := ⟨_, rfl⟩
 obtain ⟨na, hna⟩ : ∃ na, m.2.1.length = na := ⟨_, rfl⟩
 obtain ⟨ni, hni⟩ : ∃ ni, m.2.2.1.length = ni := ⟨_, rfl⟩
 obtain ⟨nm, hnm⟩ : ∃ nm, m.2.2.2.length = nm := ⟨_, rfl⟩
 rw [hns, hna, hni, hnm] at h ⊢
 rw [hns] at hSg hm0
 rw [hna] at hAs hm1
 rw [hni] at hm2
 rw [hnm] at hMe hm3
 unfold maxLen at hm0 hm1 hm2 hm3
 have Hn := Lib.hid (And.intro hns (And.intro hna (And.intro hni hnm)))
 have H := Lib.hid h
 have HSg := Lib.hid hSg
 have HAs := Lib.hid hAs
 have HMe := Lib.hid hMe
 have HB0 := Lib.hid ((Below.refl w.heap.size w).alloc (Nat.le_refl _) (.cells #[.slice A0 ns c0, .slice A1 na c1, .slice A2 ni c2, .slice A3 nm c3] 37))
 have HX0 := Lib.hid (Blk.new w 37 #[.slice A0 ns c0, .slice A1 na c1, .slice A2 ni c2, .slice A3 nm c3])
 clear hns hna hnm hni h hSg hAs hMe
 go_enter Tryz.func9, Tryz.ntmps9
 obtain ⟨y0, y1, y2, y3⟩ := blkS4 HX0.out
 go_wp2_with fail
 obtain ⟨U0, hU0⟩ : ∃ U0, U0 = w.alloc (.cells #[.slice A0 ns c0, .slice A1 na c1, .slice A2 ni c2, .slice A3 nm c3] 37) := ⟨_, rfl⟩
 have hu0 : w.heap.size < U0.heap.size := by rw [hU0]; simp
 rw [← hU0] at HB0 HX0 ⊢
 clear hU0 y0 y1 y2 y3
 refine (i_flatCycles hz (RModule.under H.out hS HB0.out) (fun b hb => by have := hS b hb; omega) (Hins.out.under hS4 HB0.out) (fun b hb => by have := hS4 b hb; omega)).mono ?_
 rintro e w1 ⟨v1, rfl, hq1, hb1⟩
 obtain ⟨A, n, c, rfl⟩ := slv_of hq1.rep
 have hn := hq1.rep.len
 rw [List.length_map] at hn
 have HE := Lib.hid (runL_at hn)
 have hn16 := (runL_at hn).2
 have HQ1 := Lib.hid hq1.rep
 have HB1 := Lib.hid (HB0.out.trans (hb1.mono (by omega)))
 have HXM1 := Lib.hid (HX0.out.below hb1 HX0.out.lt)
 have zz1 := hb1.size
 clear hq1 hb1 hn
 go_wp2_with fail
 go_loopw [7, 9, 18] (fun ov _ iv wr => ∃ (k : Nat) (xs : List Value), k ≤ n ∧ iv = .int .i64 k ∧ Grow wr w1.heap.size 49 1 ov ((runK m ins k).map rIntS) xs ∧ Below w1.heap.size w1 wr) (fun _ _ iv _ => n - (intOf iv).toNat)
 case atStart => exact ⟨0, [], Nat.zero_le _, rfl, Grow.nil _ _ _ _, Below.refl _ _⟩
 case round =>
  obtain ⟨k, xs, hk, rfl, hgr, hb⟩ := hrel
  have Hb := Lib.hid hb
  have hsz := hb.size
  have Hbw := Lib.hid (HB1.out.trans (hb.mono (by omega)))
  have HXr := Lib.hid (HXM1.out.below hb HXM1.out.lt)
  have HG := Lib.hid hgr
  have g1 : (0 : Int) ≤ (k : Int) := by omega
  obtain ⟨L, hL⟩ : ∃ L, L = (runK m ins k).map rIntS := ⟨_, rfl⟩
  have hLl : L.length = k := by rw [hL, List.length_map, runK_len]
  rw [← hL] at HG
  have HL := Lib.hid hL
  have hown := HG.out.own
  rw [hLl] at hown
  obtain ⟨Ao, co, rfl, _, _, _⟩ := own_form hown
  have Hown := Lib.hid hown
  clear hb hgr hL hown
  by_cases hlt : k < n
  ·obtain ⟨ad, x, v0, rfl, hab, hx, hr, e0⟩ := fIntSS_row (HQ1.out.under (fun b hb => hb.2) Hb.out) hlt
   obtain ⟨hR, rfl⟩ := trcL_row hx
   obtain ⟨Ax, nl, cx, rfl⟩ := slv_of hr
   have hnl := hr.len
   rw [List.length_map, nI_len] at hnl
   have g2 : (k : Int) < (n : Int) := by omega
   have hn30 := (okE_na (flat_ok (runB_iff hR).1).1).1
   have HR := Lib.hid hR
   obtain ⟨VS, hVS⟩ : ∃ VS, VS = cycV m ins k := ⟨_, rfl⟩
   have hvl : VS.length = m.1.length := by rw [hVS]; exact cycV_len _ _
   rw [← hVS] at hr hnl
   obtain rfl : VS.length = nl := hnl
   have Hr := Lib.hid hr
   have HTS := Lib.hid (show (runK m ins (k + 1)).map rIntS = L ++ [rIntS (outV m VS)] by rw [runK_succ, List.map_append, ← HL.out, hVS]; rfl)
   have Hvl := Lib.hid hvl
   have Hn30 := Lib.hid hn30
   obtain ⟨y0, y1, y2, y3⟩ := blkS4 HXr.out
   clear hx hr hVS hvl hn30 hR
   go_wp2_with fail
   refine (i_outputValues Hn30.out Hvl.out (RModule.under H.out hS Hbw.out) (fun b hb => by have := hS b hb; omega) Hr.out (fun b hb => by have := hb.2; omega)).mono ?_
   rintro e w5 ⟨vv, rfl, hqv, hb5⟩
   obtain ⟨Av, nv, cv, rfl⟩ := slv_of hqv.rep
   have HB5 := Lib.hid hb5
   have HQv := Lib.hid hqv
   have zz5 := hb5.size
   have Hown5 := Lib.hid (own_below Hown.out hb5 (Nat.le_refl _))
   clear hb5 hqv y0 y1 y2 y3
   go_wp2_with (at_builtin; refine wpList_append_any _ rfl _ _ 28 rfl (w1.heap.size) 49 i0 (.slice none 0 0) 1 24 Tryz.underlying28 hi hz0 hz1 hz2 rfl (by decide) _ _ _ rfl (Hown5.out.alloc _) _ _ 1 1 _ rfl (reads_new _ _ 1 1 rfl) (by intro u hu; simp at hu; first | (subst hu; rfl) | (rcases hu with rfl | rfl <;> rfl) | (rcases hu with rfl | rfl | rfl <;> rfl)) (by unfold maxLen; omega) (by omega) (by (try simp) <;> (try omega)) ?_; intro v6 w6 hown6 hgrow6 hblk6; refine stopX ?_)
   refine stopped ?_
   have HB6 := Lib.hid (below_push (Hb.out.trans (HB5.out.mono (by omega))) Hown5.out (Nat.le_refl _) (by omega) hgrow6)
   have HG6 := Lib.hid (show Grow w6 w1.heap.size 49 1 v6 (L ++ [rIntS (outV m VS)]) (xs ++ [.slice Av nv cv]) from
    Grow.push (Q := fun j b => j = 0 ∧ New wr w5 b) HG.out (HB5.out.alloc (by omega) _) (Nat.le_refl _) hsz (by rw [hLl]; exact hown6) hgrow6 hblk6 rfl (fun j b hb => ⟨hb.2.1, by have h1 : b < w5.heap.size := hb.2.2; simp; omega⟩) (fun j j' b h1 h2 => h1.1.trans h2.1.symm) (fun j f hf => by
     match j, hf with
     | 0, hf => simp [rIntS] at hf; subst hf; exact ⟨_, rfl, (HQv.out.alloc (fun b hb => hb.2) _).mono (fun b hb => ⟨rfl, hb⟩)⟩
     | j + 1, hf => simp [rIntS] at hf))
   clear hown6 hgrow6 hblk6
   go_wp2_with fail
   go_roundw
   case rel => exact ⟨k + 1, _, by omega, by go_num, by rw [HTS.out]; exact HG6.out, HB6.out⟩
   case measure => simp [intOf]; omega
  ·have hge : (n : Int) ≤ (k : Int) := by omega
   have hkn : k = n := by omega
   go_wp2_with fail
   go_ret
   refine ⟨_, rfl, ?_, Hbw.out⟩
   rw [HE.out.1, ← hkn]
   show Sep wr _ _ (.sl ((runK m ins k).map rIntS))
   rw [← HL.out]
   exact (HG.out.sep hLl (by unfold maxLen; omega)).mono (fun b hb => ⟨by omega, hb.2⟩)
end Go.Proofs.YtjkdgedgfkgjdaaGreat
