/- Words and contracts that later texts use. -/
import Derived.Test.YtolndlmhbnpmeaaDoorGf
import Derived.Test.YtolndlmhbnpmeaaDoorGa
import Derived.Outline
/- Contracts: the drivers of all signals of a module: the program's function. -/
namespace Go.Proofs.YtolndlmhbnpmeaaDoor
open Go.RowKit

theorem arrC_mem {n M : Nat} {c : Nat → Nat} (h : ∀ s, c s ≤ M) (hM : M ≤ 1000000) : ∀ x ∈ arrC n c, 0 ≤ x ∧ x ≤ 1000000 := by
 intro x hx
 obtain ⟨s, _, rfl⟩ := List.mem_map.1 hx
 have := h s
 omega
theorem arrC_zero (n : Nat) : arrC n (fun _ => 0) = List.replicate n 0 := by
 apply List.ext_getElem?
 intro i
 by_cases h : i < n
 ·rw [arrC_get h]; simp [h]
 ·rw [List.getElem?_eq_none (by rw [arrC_len]; omega), List.getElem?_eq_none (by simp; omega)]
theorem idxL_mem {α : Type} {p : α → Bool} {l : List α} {x : Int} (h : x ∈ idxL p l) : ∃ (i : Nat) (y : α), x = (i : Int) ∧ l[i]? = some y ∧ p y = true := by
 unfold idxL at h
 obtain ⟨z, hz, rfl⟩ := List.mem_map.1 h
 obtain ⟨h1, h2⟩ := List.mem_filter.1 hz
 obtain ⟨a, i⟩ := z
 exact ⟨i, a, rfl, List.mem_zipIdx_iff_getElem?.1 h1, h2⟩
theorem ports_mem {m : TModule} {q : Nat} {x : Int} (h : (portsM m)[q]? = some x) : ∃ (i : Nat) (y : TSignal), x = (i : Int) ∧ m.1[i]? = some y := by
 have hm := List.mem_of_getElem? h
 unfold portsM portsL at hm
 split at hm
 ·obtain ⟨i, y, h1, h2, _⟩ := idxL_mem hm
  exact ⟨i, y, h1, h2⟩
 ·simp at hm
set_option maxRecDepth 100000 in
set_option maxHeartbeats 8000000 in
theorem i_driverCounts {w : World} {S : Nat → Prop} {v : Value} {d : TDesign} {k : Nat} {m : TModule} (h : RDesign w S v d) (hS : ∀ b, S b → b < w.heap.size) (hxm : d[k]? = some m) (hcb : countsB d = true) (hib : m.2.2.1.all (insB d k) = true) :
  Calls Tryd.prog 54 #[v, .int .i64 (k : Int)] w fun e w' => ∃ v', e = .returned v' ∧ RIntS w' (New w w') v' (arrC m.1.length (drvN d m)) ∧ Below w.heap.size w w' := by
 obtain ⟨i0, hi, hz0, hz1, hz2⟩ := info_parts Tryd.infoIntC
 obtain ⟨A, c, rfl, hr, hm⟩ := dsn_open h
 obtain ⟨n, hl⟩ : ∃ n, d.length = n := ⟨_, rfl⟩
 have hk : k < n := by rw [← hl]; exact (List.getElem?_eq_some_iff.1 hxm).1
 rw [hl] at hr hm ⊢
 have Hl := Lib.hid hl
 unfold maxLen at hm
 obtain ⟨ad, m', A0, c0, A1, c1, A2, c2, A3, c3, rfl, hab, hx, hRm, hml, e0, e1, e2, e3⟩ := mod_row hr hk
 rw [hxm] at hx
 injection hx with hx
 subst hx
 have hc1 : cntOk1 m = true := by
  unfold countsB at hcb
  simp only [Bool.and_eq_true] at hcb
  exact List.all_eq_true.1 hcb.2 m (List.mem_of_getElem? hxm)
 obtain ⟨b0, b1, b2, b3⟩ := cntOk1_iff.1 hc1
 obtain ⟨_, _, _, _, _, _, _, _, hae, hSg, hAs, hIn, hMe, _⟩ := mod_open hRm
 simp only [Value.agg.injEq, Array.mk.injEq, List.cons.injEq, Value.slice.injEq, true_and, and_true] at hae
 obtain ⟨⟨rfl, rfl⟩, ⟨rfl, rfl⟩, ⟨rfl, rfl⟩, rfl, rfl⟩ := hae
 have hab1 := hS _ hab
 have HR := Lib.hid hr
 have g5 : (0 : Int) ≤ (k : Int) := by omega
 have g6 : (k : Int) < (n : Int) := by omega
 have f0 := (World.cell?_alloc_lt w (.cells #[.slice (some ad) n c] 26) (ad.add (k * 4)) (by rw [block_of_add]; exact hab1)).trans e0
 have f1 := (World.cell?_alloc_lt w (.cells #[.slice (some ad) n c] 26) (nxt (ad.add (k * 4)) 1) (by rw [nxt_block]; exact hab1)).trans e1
 have f2 := (World.cell?_alloc_lt w (.cells #[.slice (some ad) n c] 26) (nxt (ad.add (k * 4)) 2) (by rw [nxt_block]; exact hab1)).trans e2
 have f3 := (World.cell?_alloc_lt w (.cells #[.slice (some ad) n c] 26) (nxt (ad.add (k * 4)) 3) (by rw [nxt_block]; exact hab1)).trans e3
 obtain ⟨ns, hns⟩ : ∃ ns, m.1.length = ns := ⟨_, rfl⟩
 obtain ⟨na, hna⟩ : ∃ na, m.2.1.length = na := ⟨_, rfl⟩
 obtain ⟨ni, hni⟩ : ∃ ni, m.2.2.1.length = ni := ⟨_, rfl⟩
 obtain ⟨nm, hnm⟩ : ∃ nm, m.2.2.2.length = nm := ⟨_, rfl⟩
 rw [hns] at b0 f0 hSg ⊢
 rw [hna] at b1 f1 hAs
 rw [hni] at b2 f2 hIn
 rw [hnm] at b3 f3 hMe
 have Hn := Lib.hid (And.intro hns (And.intro hna (And.intro hni hnm)))
 have Hib := Lib.hid hib
 have HSg := Lib.hid hSg
 have HAs := Lib.hid hAs
 have HIn := Lib.hid hIn
 have HMe := Lib.hid hMe
 have hmk := run_make_rowN (P := Tryd.prog) 73 3 i0 (.int .i64 0) Tryd.underlying73 hi hz0 .i64 .i64 ns ns (Nat.le_refl _) (by rw [hz2]; omega) (by omega) ((w.alloc (.cells #[.slice (some ad) n c] 26)).alloc (.cells #[.slice A0 ns c0, .slice A1 na c1, .slice A2 ni c2, .slice A3 nm c3] 50))
 rw [hz1] at hmk
 have hcs : (Value.int .i64 0).cells = #[.int .i64 0] := rfl
 rw [hcs, Nat.mul_one] at hmk
 have hmf : ∀ (fn : Fn) (first cap : Array Value) (w : World), (Instr.makeFunc fn first cap).run Tryd.prog w = .ok (.func fn first cap) w := fun _ _ _ _ => rfl
 clear h hl hxm hRm hml hr hcb hc1 e0 e1 e2 e3 hib hSg hAs hIn hMe hns hna hni hnm hcs hz0 hz1 hz2 hi
 go_enter Tryd.func54, Tryd.ntmps54
 go_wp2_with fail
 obtain ⟨W0, hW0⟩ : ∃ W0, W0 = ((((w.alloc (.cells #[.slice (some ad) n c] 26)).alloc (.cells #[.slice A0 ns c0, .slice A1 na c1, .slice A2 ni c2, .slice A3 nm c3] 50)).alloc (.cells (madeCells #[.int .i64 0] ns) 3)).alloc (.cells #[.slice (some ⟨w.heap.size + 1 + 1, 0, none⟩) ns ns] 73)) := ⟨_, rfl⟩
 have HXd := Lib.hid (show Blk W0 w.heap.size 26 #[.slice (some ad) n c] by rw [hW0]; exact ((((Blk.new w _ _).alloc _).alloc _).alloc _))
 have HXm := Lib.hid (show Blk W0 (w.heap.size + 1) 50 #[.slice A0 ns c0, .slice A1 na c1, .slice A2 ni c2, .slice A3 nm c3] by rw [hW0]; exact (((blk_new_at (by simp)).alloc _).alloc _))
 have HXo := Lib.hid (show Blk W0 (w.heap.size + 1 + 1 + 1) 73 #[.slice (some ⟨w.heap.size + 1 + 1, 0, none⟩) ns ns] by rw [hW0]; exact blk_new_at (by simp))
 have HOw := Lib.hid (show W0.ownsRow 0 3 1 (.slice (some ⟨w.heap.size + 1 + 1, 0, none⟩) ns ns) ns (ints (arrC ns (asgN []))) by
  have hb : Blk W0 (w.heap.size + 1 + 1) 3 (madeCells #[.int .i64 0] ns) := by rw [hW0]; exact ((blk_new_at (by simp)).alloc _)
  have h1 := own_blk (n := ns) (size := 1) hb (by unfold maxLen; omega) (by simp [size_madeCells])
  rw [made_ints] at h1
  rw [show asgN [] = (fun _ => 0) from by funext s; simp [asgN], arrC_zero]
  exact h1)
 have HB0 := Lib.hid (show Below w.heap.size w W0 by rw [hW0]; exact bel_)
 have hz : W0.heap.size = w.heap.size + 1 + 1 + 1 + 1 := by rw [hW0]; simp
 rw [← hW0]
 clear hW0 hmk f0 f1 f2 f3
 go_loopw [9, 30] (fun _ iv wr => ∃ j : Nat, j ≤ na ∧ iv = .int .i64 j ∧ Only (fun b => b = w.heap.size + 1 + 1) W0 wr ∧ wr.ownsRow 0 3 1 (.slice (some ⟨w.heap.size + 1 + 1, 0, none⟩) ns ns) ns (ints (arrC ns (asgN (m.2.1.take j))))) (fun _ iv _ => na - (intOf iv).toNat)
 case atStart => exact ⟨0, Nat.zero_le _, rfl, Only.refl _ _, HOw.out⟩
 case round =>
  obtain ⟨j, hj, rfl, ho, hown⟩ := hrel
  have Ho := Lib.hid ho
  have Hown := Lib.hid hown
  have hsz := ho.size
  have Hbw := Lib.hid (HB0.out.trans (ho.below (B := w.heap.size) (by omega) (fun b hb => by omega)))
  clear ho hown
  by_cases hlt : j < na
  ·obtain ⟨ad2, a, os, A1', c1', rfl, hab2, hx, hro, hom, t0, t1⟩ := asg_row (HAs.out.under hS Hbw.out) hlt
   have g1 : (0 : Int) ≤ (j : Int) := by omega
   have g2 : (j : Int) < (na : Int) := by omega
   have Hs := Lib.hid (fun s => asgN_succ hx s)
   clear hx hro hom
   go_wp2_with fail
   refine (i_add (base := 0) (g := w.heap.size + 1 + 1 + 1) (h := w.heap.size + 1 + 1) (n := ns) (c := ns) a ((Ho.out.blk HXo.out (by omega)).alloc _) (Hown.out.alloc _) (by omega) (arrC_mem (M := 500) (fun s => by have h1 := asgN_le (m.2.1.take j) s; rw [List.length_take] at h1; have := Hn.out.2.1; omega) (by omega))).mono ?_
   rintro e w9 ⟨rfl, hown9, ho9⟩
   rw [bump_arr] at hown9
   have Hown9 := Lib.hid hown9
   have Ho9 := Lib.hid ho9
   clear hown9 ho9
   go_wp2_with fail
   go_roundw
   case rel =>
    refine ⟨j + 1, by omega, by go_num, (Ho.out.alloc _).trans Ho9.out, ?_⟩
    rw [arrC_cong (c := asgN (m.2.1.take (j + 1))) (fun s _ => Hs.out s)]
    exact Hown9.out
   case measure => simp [intOf]; omega
  ·have hge : (na : Int) ≤ (j : Int) := by omega
   have hjn : j = na := by omega
   have HOw1 := Lib.hid (show wr.ownsRow 0 3 1 (.slice (some ⟨w.heap.size + 1 + 1, 0, none⟩) ns ns) ns (ints (arrC ns (fun s => asgN m.2.1 s + memN (m.2.2.2.take 0) s))) by
    have h1 := Hown.out
    rw [List.take_of_length_le (by have := Hn.out.2.1; omega)] at h1
    rw [arrC_cong (c' := asgN m.2.1) (fun s _ => by simp [memN])]
    exact h1)
   have HXm1 := Lib.hid (Ho.out.blk HXm.out (by omega))
   clear hjn
   obtain ⟨y0, y1, y2, y3⟩ := blkS4 HXm1.out
   go_wp2_with fail
   clear y0 y1 y2 y3
   have HO1 := Ho
   go_loopw [11, 42] (fun _ iv wr => ∃ j : Nat, j ≤ nm ∧ iv = .int .i64 j ∧ Only (fun b => b = w.heap.size + 1 + 1) W0 wr ∧ wr.ownsRow 0 3 1 (.slice (some ⟨w.heap.size + 1 + 1, 0, none⟩) ns ns) ns (ints (arrC ns (fun s => asgN m.2.1 s + memN (m.2.2.2.take j) s)))) (fun _ iv _ => nm - (intOf iv).toNat)
   case atStart => exact ⟨0, Nat.zero_le _, rfl, Ho.out, HOw1.out⟩
   case round =>
    clear HOw1 HXm1 Hbw hsz
    obtain ⟨j2, hj2, rfl, ho2, hown2⟩ := hrel
    have Ho2 := Lib.hid ho2
    have Hown2 := Lib.hid hown2
    have hsz2 := ho2.size
    have Hbw2 := Lib.hid (HB0.out.trans (ho2.below (B := w.heap.size) (by omega) (fun b hb => by omega)))
    clear ho2 hown2
    by_cases hlt2 : j2 < nm
    ·obtain ⟨ad2, m0, m1, m2, m3, rfl, hab2, hx, t0, t1, t2, t3⟩ := fMemS_row (HMe.out.under hS Hbw2.out) hlt2
     have g1 : (0 : Int) ≤ (j2 : Int) := by omega
     have g2 : (j2 : Int) < (nm : Int) := by omega
     have Hs := Lib.hid (fun s => memN_succ hx s)
     clear hx
     go_wp2_with fail
     refine (i_add (base := 0) (g := w.heap.size + 1 + 1 + 1) (h := w.heap.size + 1 + 1) (n := ns) (c := ns) m3 ((Ho2.out.blk HXo.out (by omega)).alloc _) (Hown2.out.alloc _) (by omega) (arrC_mem (M := 500) (fun s => by have h1 := asgN_le m.2.1 s; have h2 := memN_le (m.2.2.2.take j2) s; rw [List.length_take] at h2; have := Hn.out.2.1; omega) (by omega))).mono ?_
     rintro e w9 ⟨rfl, hown9, ho9⟩
     rw [bump_arr] at hown9
     have Hown9 := Lib.hid hown9
     have Ho9 := Lib.hid ho9
     clear hown9 ho9
     go_wp2_with fail
     go_roundw
     case rel =>
      refine ⟨j2 + 1, by omega, by go_num, (Ho2.out.alloc _).trans Ho9.out, ?_⟩
      rw [arrC_cong (c := fun s => asgN m.2.1 s + memN (m.2.2.2.take (j2 + 1)) s) (fun s _ => by rw [Hs.out s, ← Nat.add_assoc])]
      exact Hown9.out
     case measure => simp [intOf]; omega
    ·have hge2 : (nm : Int) ≤ (j2 : Int) := by omega
     have hjn2 : j2 = nm := by omega
     have HOw2 := Lib.hid (show wr.ownsRow 0 3 1 (.slice (some ⟨w.heap.size + 1 + 1, 0, none⟩) ns ns) ns (ints (arrC ns (fun s => asgN m.2.1 s + memN m.2.2.2 s + insN d (m.2.2.1.take 0) s))) by
      have h1 := Hown2.out
      rw [List.take_of_length_le (by have := Hn.out.2.2.2; omega)] at h1
      rw [arrC_cong (c' := fun s => asgN m.2.1 s + memN m.2.2.2 s) (fun s _ => by simp [insN])]
      exact h1)
     have HXm2 := Lib.hid (Ho2.out.blk HXm.out (by omega))
     clear hjn2
     obtain ⟨y0, y1, y2, y3⟩ := blkS4 HXm2.out
     go_wp2_with fail
     clear y0 y1 y2 y3
     have HO3 := Ho2
     go_loopw [13, 14, 15, 16, 54, 67] (fun _ _ _ _ iv _ wr => ∃ j : Nat, j ≤ ni ∧ iv = .int .i64 j ∧ Only (fun b => b = w.heap.size + 1 + 1) W0 wr ∧ wr.ownsRow 0 3 1 (.slice (some ⟨w.heap.size + 1 + 1, 0, none⟩) ns ns) ns (ints (arrC ns (fun s => asgN m.2.1 s + memN m.2.2.2 s + insN d (m.2.2.1.take j) s)))) (fun _ _ _ _ iv _ _ => ni - (intOf iv).toNat)
     case atStart => exact ⟨0, Nat.zero_le _, rfl, Ho2.out, HOw2.out⟩
     case round =>
      clear HOw2 HXm2 Hbw2 hsz2
      obtain ⟨j3, hj3, rfl, ho3, hown3⟩ := hrel
      have Ho3 := Lib.hid ho3
      have Hown3 := Lib.hid hown3
      have hsz3 := ho3.size
      have Hbw3 := Lib.hid (HB0.out.trans (ho3.below (B := w.heap.size) (by omega) (fun b hb => by omega)))
      clear ho3 hown3
      by_cases hlt3 : j3 < ni
      ·obtain ⟨ad2, a, pr, ps, A2', c2', rfl, hab2, hx, hrp, hpm, t0, t1, t2⟩ := ins_row (HIn.out.under hS Hbw3.out) hlt3
       have g1 : (0 : Int) ≤ (j3 : Int) := by omega
       have g2 : (j3 : Int) < (ni : Int) := by omega
       unfold maxLen at hpm
       have Hs := Lib.hid (fun s => insN_succ (d := d) hx s)
       have hib3 : insB d k (a, pr, ps) = true := List.all_eq_true.1 Hib.out _ (List.mem_of_getElem? hx)
       simp only [insB, Bool.and_eq_true, decide_eq_true_eq] at hib3
       obtain ⟨hia, hipl⟩ := hib3
       have hq1 := (inR_iff.1 hia).1
       have hq2 := (inR_iff.1 hia).2
       obtain ⟨p, rfl⟩ := Int.eq_ofNat_of_zero_le hq1
       have hpn : p < n := by omega
       have g3 : (p : Int) < (n : Int) := by omega
       have g4 : (0 : Int) ≤ (p : Int) := by omega
       have Hrp := Lib.hid hrp
       obtain ⟨ad3, m', B0, d0, B1, d1, B2, d2, B3, d3, hAe, hab4, hx', hRm', hml', r0, r1, r2, r3⟩ := mod_row ((HR.out.under hS (Hbw3.out.alloc (by omega) (.cells #[.int .i64 p, .int .i64 pr, .slice A2' ps.length c2'] 75)))) hpn
       obtain rfl : ad = ad3 := by injection hAe
       have hmd' := md_get hx'
       rw [hmd'] at hipl
       have hIN : ∀ s, instN d ((p : Int), pr, ps) s = portN m'.1 ((portsM m').zip ps) s := fun s => by simp only [instN, hmd']
       have HIN := Lib.hid hIN
       have HRm' := Lib.hid hRm'
       obtain ⟨P, hP⟩ : ∃ P, P = portsM m' := ⟨_, rfl⟩
       have hPl : P.length ≤ 30 := by rw [hP]; exact portsL_len _
       rw [← hP] at hipl
       have HP := Lib.hid hP
       have Hipl := Lib.hid hipl
       have HXd3 := Lib.hid ((Ho3.out.blk HXd.out (by omega)).alloc (.cells #[.int .i64 p, .int .i64 pr, .slice A2' ps.length c2'] 75))
       have HXi := Lib.hid (Blk.new wr 75 #[.int .i64 p, .int .i64 pr, .slice A2' ps.length c2'])
       obtain ⟨_, _, _, _, _, _, _, _, hae', hSg', _⟩ := mod_open hRm'
       simp only [Value.agg.injEq, Array.mk.injEq, List.cons.injEq, Value.slice.injEq, true_and, and_true] at hae'
       obtain ⟨⟨rfl, rfl⟩, -, -, -⟩ := hae'
       have HSg' := Lib.hid hSg'
       clear hx hrp hia hipl hAe hx' hRm' hml' hmd' hIN hP hq1 hq2 hSg'
       have y0 := blkS1 HXd3.out
       have HXo3 := Lib.hid ((Ho3.out.blk HXo.out (by omega)).alloc (.cells #[.int .i64 p, .int .i64 pr, .slice A2' ps.length c2'] 75))
       have HO31 := Lib.hid (Ho3.out.alloc (.cells #[.int .i64 p, .int .i64 pr, .slice A2' ps.length c2'] 75))
       have Hown31 := Lib.hid (Hown3.out.alloc (.cells #[.int .i64 p, .int .i64 pr, .slice A2' ps.length c2'] 75))
       go_wp2_with fail
       refine (i_PortsOf (RModule.keep HRm'.out (fun q hq => World.cell?_alloc_lt _ _ q (by have := hS _ hq; simp; omega))) (fun b hb => by have := hS b hb; (try simp) <;> omega)).mono ?_
       rintro e W5 ⟨v', rfl, hq8, hb8⟩
       rw [← HP.out] at hq8
       obtain ⟨A8, c8, rfl, hP8, _⟩ := sl_form hq8.rep (List.length_map _)
       have z5 := hb8.size
       simp at z5
       have HP8 := Lib.hid (hP8.mono (S' := fun b => wr.heap.size < b ∧ b < W5.heap.size) (fun b hb => by have := hb; simp [New] at this; omega))
       have HXo5 := Lib.hid ((HXo3.out.alloc _).below hb8 (by simp; omega))
       have HXi5 := Lib.hid ((HXi.out.alloc _).below hb8 (by simp; omega))
       have HXd5 := Lib.hid ((HXd3.out.alloc _).below hb8 (by simp; omega))
       have HXn5 := Lib.hid (Blk.below (blk_new_at (g := wr.heap.size + 1) (by simp)) hb8 (by simp))
       have HO5 := Lib.hid ((HO31.out.alloc _).trans (Only.of_below hb8 _))
       have Hown5 := Lib.hid (own_below (Hown31.out.alloc _) hb8 (Nat.le_refl _))
       have HB5 := Lib.hid (HB0.out.trans (HO5.out.below (B := w.heap.size) (by omega) (fun b hb => by omega)))
       have HSg5 := Lib.hid (Rep.keep (w' := W5) HSg'.out (fun q hq => (hb8.cell (by have := hS _ hq; simp; omega)).trans (World.cell?_alloc_lt _ _ q (by have := hS _ hq; simp; omega))))
       have Hrp5 := Lib.hid (Rep.keep (w' := W5) Hrp.out (fun q hq => (hb8.cell (by have := hS _ hq; simp; omega)).trans ((World.cell?_alloc_lt _ _ q (by have := hS _ hq; simp; omega)).trans (World.cell?_alloc_lt _ _ q (by have := hS _ hq; omega)))))
       clear hq8 hP8 hb8 HXo3 HXi HXd3 HO31 Hown31 y0
       obtain ⟨np, hnp⟩ : ∃ np, P.length = np := ⟨_, rfl⟩
       rw [hnp] at HP8 hPl ⊢
       have Hnp := Lib.hid hnp
       clear hnp
       go_wp2_with fail
       go_loopw [15, 16, 67] (fun _ _ iv wr => ∃ q : Nat, q ≤ np ∧ iv = .int .i64 q ∧ Only (fun b => b = w.heap.size + 1 + 1) W5 wr ∧ wr.ownsRow 0 3 1 (.slice (some ⟨w.heap.size + 1 + 1, 0, none⟩) ns ns) ns (ints (arrC ns (fun s => asgN m.2.1 s + memN m.2.2.2 s + insN d (m.2.2.1.take j3) s + portN m'.1 ((P.zip ps).take q) s)))) (fun _ _ iv _ => np - (intOf iv).toNat)
       case atStart => exact ⟨0, Nat.zero_le _, rfl, Only.refl _ _, by rw [arrC_cong (c' := fun s => asgN m.2.1 s + memN m.2.2.2 s + insN d (m.2.2.1.take j3) s) (fun s _ => by simp [portN])]; exact Hown5.out⟩
       case round =>
        obtain ⟨q, hq, rfl, ho4, hown4⟩ := hrel
        have Ho4 := Lib.hid ho4
        have Hown4 := Lib.hid hown4
        have z6 := ho4.size
        have hkp : ∀ b, S b → ¬ b = w.heap.size + 1 + 1 := fun b hb => by have := hS b hb; omega
        clear ho4 hown4 Hown5
        by_cases hlt4 : q < np
        ·obtain ⟨ad8, y, rfl, hab8, hy, cP⟩ := fIntS_row (Rep.keep HP8.out (fun p hp => Ho4.out.cell hp.2 (by have := hp.1; omega))) hlt4
         obtain ⟨ix, sy, rfl, hsy⟩ := ports_mem (m := m') (by rw [← HP.out]; exact hy)
         have hil := (List.getElem?_eq_some_iff.1 hsy).1
         obtain ⟨ad9, x0, x1, x2, rfl, hab9, hx9, s0, s1, s2⟩ := fSignalS_row (Rep.keep HSg5.out (fun p hp => Ho4.out.cell (by have := hS _ hp; omega) (hkp _ hp))) hil
         obtain ⟨ad7, zz, rfl, hab7, hz7, cz⟩ := fIntS_row (Rep.keep Hrp5.out (fun p hp => Ho4.out.cell (by have := hS _ hp; omega) (hkp _ hp))) (show q < ps.length by rw [Hipl.out, Hnp.out]; exact hlt4)
         have hzip : (P.zip ps)[q]? = some ((ix : Int), zz) := List.getElem?_zip_eq_some.2 ⟨hy, hz7⟩
         have Hsp := Lib.hid (fun s => portN_succ (sg := m'.1) hzip s)
         have Hka := Lib.hid (show kindAt m'.1 (ix : Int) = x0 by simp [kindAt, List.getD, hx9])
         have g7 : (0 : Int) ≤ (q : Int) := by omega
         have g8 : (q : Int) < (np : Int) := by omega
         have g9 : (0 : Int) ≤ (ix : Int) := by omega
         have g10 : (ix : Int) < (m'.1.length : Int) := by omega
         have g11 : (q : Int) < (ps.length : Int) := by have := Hipl.out; have := Hnp.out; omega
         obtain ⟨yi0, yi1, yi2⟩ := (show _ ∧ _ ∧ _ from ⟨(Ho4.out.blk HXi5.out (by omega)).cell 0, (Ho4.out.blk HXi5.out (by omega)).cell 1, (Ho4.out.blk HXi5.out (by omega)).cell 2⟩)
         simp only [List.getElem?_toArray, List.getElem?_cons_zero, List.getElem?_cons_succ] at yi0 yi1 yi2
         obtain ⟨yn0, yn1, yn2, yn3⟩ := blkS4 (Ho4.out.blk HXn5.out (by omega))
         clear hy hsy hx9 hz7 hzip
         by_cases hk1 : x0 = 1
         ·subst hk1
          go_wp2_with fail
          refine (i_add (base := 0) (g := w.heap.size + 1 + 1 + 1) (h := w.heap.size + 1 + 1) (n := ns) (c := ns) zz (Ho4.out.blk HXo5.out (by omega)) Hown4.out (by omega) (arrC_mem (M := 500) (fun s => by have h1 := asgN_le m.2.1 s; have h2 := memN_le m.2.2.2 s; have h3 := insN_le d (m.2.2.1.take j3) s; have h4 := portN_le m'.1 ((P.zip ps).take q) s; rw [List.length_take] at h3 h4; have := Hn.out.2.1; have := Hn.out.2.2.2; omega) (by omega))).mono ?_
          rintro e w9 ⟨rfl, hown9, ho9⟩
          rw [bump_arr] at hown9
          have Hown9 := Lib.hid hown9
          have Ho9 := Lib.hid ho9
          clear hown9 ho9
          go_wp2_with fail
          go_roundw
          case rel =>
           refine ⟨q + 1, by omega, by go_num, Ho4.out.trans Ho9.out, ?_⟩
           rw [arrC_cong (c := fun s => asgN m.2.1 s + memN m.2.2.2 s + insN d (m.2.2.1.take j3) s + portN m'.1 ((P.zip ps).take (q + 1)) s) (c' := fun s => asgN m.2.1 s + memN m.2.2.2 s + insN d (m.2.2.1.take j3) s + portN m'.1 ((P.zip ps).take q) s + if zz = (s : Int) then 1 else 0) (fun s _ => by rw [Hsp.out s, Hka.out]; simp only [true_and]; rw [← Nat.add_assoc])]
           exact Hown9.out
          case measure => simp [intOf]; omega
         ·have qz : (x0 == 1) = false := by simpa using hk1
          have Hk1 := Lib.hid hk1
          clear hk1
          go_wp2_with fail
          go_roundw
          case rel =>
           refine ⟨q + 1, by omega, by go_num, Ho4.out, ?_⟩
           rw [arrC_cong (c := fun s => asgN m.2.1 s + memN m.2.2.2 s + insN d (m.2.2.1.take j3) s + portN m'.1 ((P.zip ps).take (q + 1)) s) (fun s _ => by rw [Hsp.out s, Hka.out, if_neg (fun hc => Hk1.out hc.1), Nat.add_zero])]
           exact Hown4.out
          case measure => simp [intOf]; omega
        ·have hge4 : (np : Int) ≤ (q : Int) := by omega
         have hqn : q = np := by omega
         have Hown6 := Lib.hid (show wr.ownsRow 0 3 1 (.slice (some ⟨w.heap.size + 1 + 1, 0, none⟩) ns ns) ns (ints (arrC ns (fun s => asgN m.2.1 s + memN m.2.2.2 s + insN d (m.2.2.1.take (j3 + 1)) s))) by
          rw [arrC_cong (c' := fun s => asgN m.2.1 s + memN m.2.2.2 s + insN d (m.2.2.1.take j3) s + portN m'.1 ((P.zip ps).take q) s) (fun s _ => by rw [Hs.out s, HIN.out s, ← HP.out, List.take_of_length_le (l := P.zip ps) (by rw [List.length_zip]; have := Hnp.out; omega), ← Nat.add_assoc])]
          exact Hown4.out)
         clear hqn
         go_wp2_with fail
         go_roundw
         case rel => exact ⟨j3 + 1, by omega, by go_num, HO5.out.trans Ho4.out, Hown6.out⟩
         case measure => simp [intOf]; omega
      ·have hge3 : (ni : Int) ≤ (j3 : Int) := by omega
       have hjn3 : j3 = ni := by omega
       have HOF := Lib.hid (show wr.ownsRow 0 3 1 (.slice (some ⟨w.heap.size + 1 + 1, 0, none⟩) ns ns) ns (ints (arrC ns (drvN d m))) by
        have h1 := Hown3.out
        rw [List.take_of_length_le (by have := Hn.out.2.2.1; omega)] at h1
        exact h1)
       have yo := blkS1 (Ho3.out.blk HXo.out (by omega))
       clear hjn3
       go_wp2_with fail
       go_ret
       exact ⟨_, rfl, (sep_ints (by unfold maxLen; omega) HOF.out (fun g hg => by injection hg with hg; subst hg; exact ⟨by show w.heap.size ≤ w.heap.size + 1 + 1; omega, by show w.heap.size + 1 + 1 < wr.heap.size; omega⟩)).rep, Hbw3.out⟩
end Go.Proofs.YtolndlmhbnpmeaaDoor

/- Contracts: the drivers of a signal: the program's function. -/
namespace Go.Proofs.YtolndlmhbnpmeaaDoor
open Go.RowKit

/-- how often a signal is driven, -1 if the design is not so far valid -/
def dcB (d : TDesign) (k s : Int) : Int := if l04C d k && inR s 0 ((md d k).1.length - 1) then ((drvN d (md d k) s.toNat : Nat) : Int) else -1
theorem dcB_no {d : TDesign} {k s : Int} (h : l04C d k = false ∨ inR s 0 ((md d k).1.length - 1) = false) : dcB d k s = -1 := by
 unfold dcB
 rcases h with h | h <;> simp [h]
theorem drvN_le {d : TDesign} {m : TModule} (h : cntOk1 m = true) (s : Nat) : drvN d m s ≤ 500 := by
 obtain ⟨h1, h2, h3, h4⟩ := cntOk1_iff.1 h
 have a := asgN_le m.2.1 s
 have b := memN_le m.2.2.2 s
 have c := insN_le d m.2.2.1 s
 unfold drvN
 omega
end Go.Proofs.YtolndlmhbnpmeaaDoor

/- Contracts: the lists and instances of a design: the reference's function. -/
namespace Go.Proofs.YtolndlmhbnpmeaaDoor
open Go.RowKit

end Go.Proofs.YtolndlmhbnpmeaaDoor

/- Contracts: the drivers of a signal: the reference's function. -/
namespace Go.Proofs.YtolndlmhbnpmeaaDoor
open Go.RowKit

theorem l04C_iff {d : TDesign} {k : Int} : l04C d k = true ↔ (0 ≤ k ∧ k < d.length) ∧ countsB d = true ∧ instsB d k = true := by
 simp [l04C]
theorem inR_no2 {ns sn : Nat} (h : ns ≤ sn) : inR (sn : Int) 0 ((ns : Int) - 1) = false := by rw [Bool.eq_false_iff]; intro hc; have := inR_iff.1 hc; omega
theorem inR_no1 {s : Int} {ns : Nat} (h : s < 0) : inR s 0 ((ns : Int) - 1) = false := by rw [Bool.eq_false_iff]; intro hc; have := inR_iff.1 hc; omega
end Go.Proofs.YtolndlmhbnpmeaaDoor
