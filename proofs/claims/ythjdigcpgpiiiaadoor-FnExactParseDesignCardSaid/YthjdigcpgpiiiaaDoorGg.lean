/- Words and contracts that later texts use. -/
import Derived.Test.YthjdigcpgpiiiaaDoorGf
import Derived.Test.YthjdigcpgpiiiaaDoorGa
import Derived.Outline
/- Contracts: the drivers of all signals of a module: the program's function. -/
namespace Go.Proofs.YthjdigcpgpiiiaaDoor
open Go.RowKit

theorem arrC_mem {n M : Nat} {c : Nat → Nat} (h : ∀ s, c s ≤ M) (hM : M ≤ 1000000) : ∀ x ∈ arrC n c, 0 ≤ x ∧ x ≤ 1000000 := by
 intro x hx
 obtain ⟨s, _, rfl⟩ := List.mem_map.1 hx
 have := h s
 omega
theorem arrC_zero (n : Nat) : arrC n (fun _ => 0) = List.replicate n 0 := by
 apply List.ext_getElem?
 intro i
 by_cases h : i < n
 ·rw [arrC_get h]; simp [h]
 ·rw [List.getElem?_eq_none (by rw [arrC_len]; omega), List.getElem?_eq_none (by simp; omega)]
theorem idxL_mem {α : Type} {p : α → Bool} {l : List α} {x : Int} (h : x ∈ idxL p l) : ∃ (i : Nat) (y : α), x = (i : Int) ∧ l[i]? = some y ∧ p y = true := by
 unfold idxL at h
 obtain ⟨z, hz, rfl⟩ := List.mem_map.1 h
 obtain ⟨h1, h2⟩ := List.mem_filter.1 hz
 obtain ⟨a, i⟩ := z
 exact ⟨i, a, rfl, List.mem_zipIdx_iff_getElem?.1 h1, h2⟩
theorem ports_mem {m : TModule} {q : Nat} {x : Int} (h : (portsM m)[q]? = some x) : ∃ (i : Nat) (y : TSignal), x = (i : Int) ∧ m.1[i]? = some y := by
 have hm := List.mem_of_getElem? h
 unfold portsM portsL at hm
 split at hm
 ·obtain ⟨i, y, h1, h2, _⟩ := idxL_mem hm
  exact ⟨i, y, h1, h2⟩
 ·simp at hm
set_option maxRecDepth 100000 in
set_option maxHeartbeats 8000000 in
theorem i_driverCounts {w : World} {S : Nat → Prop} {v : Value} {d : TDesign} {k : Nat} {m : TModule} (h : RDesign w S v d) (hS : ∀ b, S b → b < w.heap.size) (hxm : d[k]? = some m) (hcb : countsB d = true) (hib : m.2.2.1.all (insB d k) = true) :
  Calls Tryd.prog 100 #[v, .int .i64 (k : Int)] w fun e w' => ∃ v', e = .returned v' ∧ RIntS w' (New w w') v' (arrC m.1.length (drvN d m)) ∧ Below w.heap.size w w' := by
 obtain ⟨i0, hi, hz0, hz1, hz2⟩ := info_parts Tryd.infoIntC
 obtain ⟨A, c, rfl, hr, hm⟩ := dsn_open h
 obtain ⟨n, hl⟩ : ∃ n, d.length = n := ⟨_, rfl⟩
 have hk : k < n := by rw [← hl]; exact (List.getElem?_eq_some_iff.1 hxm).1
 rw [hl] at hr hm ⊢
 have Hl := Lib.hid hl
 unfold maxLen at hm
 obtain ⟨ad, m', A0, c0, A1, c1, A2, c2, A3, c3, rfl, hab, hx, hRm, hml, e0, e1, e2, e3⟩ := mod_row hr hk
 rw [hxm] at hx
 injection hx with hx
 subst hx
 have hc1 : cntOk1 m = true := by
  unfold countsB at hcb
  simp only [Bool.and_eq_true] at hcb
  exact List.all_eq_true.1 hcb.2 m (List.mem_of_getElem? hxm)
 obtain ⟨b0, b1, b2, b3⟩ := cntOk1_iff.1 hc1
 obtain ⟨_, _, _, _, _, _, _, _, hae, hSg, hAs, hIn, hMe, _⟩ := mod_open hRm
 simp only [Value.agg.injEq, Array.mk.injEq, List.cons.injEq, Value.slice.injEq, true_and, and_true] at hae
 obtain ⟨⟨rfl, rfl⟩, ⟨rfl, rfl⟩, ⟨rfl, rfl⟩, rfl, rfl⟩ := hae
 have hab1 := hS _ hab
 have HR := Lib.hid hr
 have g5 : (0 : Int) ≤ (k : Int) := by omega
 have g6 : (k : Int) < (n : Int) := by omega
 have f0 := (World.cell?_alloc_lt w (.cells #[.slice (some ad) n c] 24) (ad.add (k * 4)) (by rw [block_of_add]; exact hab1)).trans e0
 have f1 := (World.cell?_alloc_lt w (.cells #[.slice (some ad) n c] 24) (nxt (ad.add (k * 4)) 1) (by rw [nxt_block]; exact hab1)).trans e1
 have f2 := (World.cell?_alloc_lt w (.cells #[.slice (some ad) n c] 24) (nxt (ad.add (k * 4)) 2) (by rw [nxt_block]; exact hab1)).trans e2
 have f3 := (World.cell?_alloc_lt w (.cells #[.slice (some ad) n c] 24) (nxt (ad.add (k * 4)) 3) (by rw [nxt_block]; exact hab1)).trans e3
 obtain ⟨ns, hns⟩ : ∃ ns, m.1.length = ns := ⟨_, rfl⟩
 obtain ⟨na, hna⟩ : ∃ na, m.2.1.length = na := ⟨_, rfl⟩
 obtain ⟨ni, hni⟩ : ∃ ni, m.2.2.1.length = ni := ⟨_, rfl⟩
 obtain ⟨nm, hnm⟩ : ∃ nm, m.2.2.2.length = nm := ⟨_, rfl⟩
 rw [hns] at b0 f0 hSg ⊢
 rw [hna] at b1 f1 hAs
 rw [hni] at b2 f2 hIn
 rw [hnm] at b3 f3 hMe
 have Hn := Lib.hid (And.intro hns (And.intro hna (And.intro hni hnm)))
 have Hib := Lib.hid hib
 have HSg := Lib.hid hSg
 have HAs := Lib.hid hAs
 have HIn := Lib.hid hIn
 have HMe := Lib.hid hMe
 have hmk := run_make_rowN (P := Tryd.prog) 76 3 i0 (.int .i64 0) Tryd.underlying76 hi hz0 .i64 .i64 ns ns (Nat.le_refl _) (by rw [hz2]; omega) (by omega) ((w.alloc (.cells #[.slice (some ad) n c] 24)).alloc (.cells #[.slice A0 ns c0, .slice A1 na c1, .slice A2 ni c2, .slice A3 nm c3] 42))
 rw [hz1] at hmk
 have hcs : (Value.int .i64 0).cells = #[.int .i64 0] := rfl
 rw [hcs, Nat.mul_one] at hmk
 have hmf : ∀ (fn : Fn) (first cap : Array Value) (w : World), (Instr.makeFunc fn first cap).run Tryd.prog w = .ok (.func fn first cap) w := fun _ _ _ _ => rfl
 clear h hl hxm hRm hml hr hcb hc1 e0 e1 e2 e3 hib hSg hAs hIn hMe hns hna hni hnm hcs hz0 hz1 hz2 hi
 go_enter Tryd.func100, Tryd.ntmps100
 go_wp2_with fail
 obtain ⟨W0, hW0⟩ : ∃ W0, W0 = ((((w.alloc (.cells #[.slice (some ad) n c] 24)).alloc (.cells #[.slice A0 ns c0, .slice A1 na c1, .slice A2 ni c2, .slice A3 nm c3] 42)).alloc (.cells (madeCells #[.int .i64 0] ns) 3)).alloc (.cells #[.slice (some ⟨w.heap.size + 1 + 1, 0, none⟩) ns ns] 76)) := ⟨_, rfl⟩
 have HXd := Lib.hid (show Blk W0 w.heap.size 24 #[.slice (some ad) n c] by rw [hW0]; exact ((((Blk.new w _ _).alloc _).alloc _).alloc _))
 have HXm := Lib.hid (show Blk W0 (w.heap.size + 1) 42 #[.slice A0 ns c0, .slice A1 na c1, .slice A2 ni c2, .slice A3 nm c3] by rw [hW0]; exact (((blk_new_at (by simp)).alloc _).alloc _))
 have HXo := Lib.hid (show Blk W0 (w.heap.size + 1 + 1 + 1) 76 #[.slice (some ⟨w.heap.size + 1 + 1, 0, none⟩) ns ns] by rw [hW0]; exact blk_new_at (by simp))
 have HOw := Lib.hid (show W0.ownsRow 0 3 1 (.slice (some ⟨w.heap.size + 1 + 1, 0, none⟩) ns ns) ns (ints (arrC ns (asgN []))) by
  have hb : Blk W0 (w.heap.size + 1 + 1) 3 (madeCells #[.int .i64 0] ns) := by rw [hW0]; exact ((blk_new_at (by simp)).alloc _)
  have h1 := own_blk (n := ns) (size := 1) hb (by unfold maxLen; omega) (by simp [size_madeCells])
  rw [made_ints] at h1
  rw [show asgN [] = (fun _ => 0) from by funext s; simp [asgN], arrC_zero]
  exact h1)
 have HB0 := Lib.hid (show Below w.heap.size w W0 by rw [hW0]; exact bel_)
 have hz : W0.heap.size = w.heap.size + 1 + 1 + 1 + 1 := by rw [hW0]; simp
 rw [← hW0]
 clear hW0 hmk f0 f1 f2 f3
 go_loopw [9, 30] (fun _ iv wr => ∃ j : Nat, j ≤ na ∧ iv = .int .i64 j ∧ Only (fun b => b = w.heap.size + 1 + 1) W0 wr ∧ wr.ownsRow 0 3 1 (.slice (some ⟨w.heap.size + 1 + 1, 0, none⟩) ns ns) ns (ints (arrC ns (asgN (m.2.1.take j))))) (fun _ iv _ => na - (intOf iv).toNat)
 case atStart => exact ⟨0, Nat.zero_le _, rfl, Only.refl _ _, HOw.out⟩
 case round =>
  obtain ⟨j, hj, rfl, ho, hown⟩ := hrel
  have Ho := Lib.hid ho
  have Hown := Lib.hid hown
  have hsz := ho.size
  have Hbw := Lib.hid (HB0.out.trans (ho.below (B := w.heap.size) (by omega) (fun b hb => by omega)))
  clear ho hown
  by_cases hlt : j < na
  ·obtain ⟨ad2, a, os, A1', c1', rfl, hab2, hx, hro, hom, t0, t1⟩ := asg_row (HAs.out.under hS Hbw.out) hlt
   have g1 : (0 : Int) ≤ (j : Int) := by omega
   have g2 : (j : Int) < (na : Int) := by omega
   have Hs := Lib.hid (fun s => asgN_succ hx s)
   clear hx hro hom
   go_wp2_with fail
   refine (i_add (base := 0) (g := w.heap.size + 1 + 1 + 1) (h := w.heap.size + 1 + 1) (n := ns) (c := ns) a ((Ho.out.blk HXo.out (by omega)).alloc _) (Hown.out.alloc _) (by omega) (arrC_mem (M := 500) (fun s => by have h1 := asgN_le (m.2.1.take j) s; rw [List.length_take] at h1; have := Hn.out.2.1; omega) (by omega))).mono ?_
   rintro e w9 ⟨rfl, hown9, ho9⟩
   rw [bump_arr] at hown9
   have Hown9 := Lib.hid hown9
   have Ho9 := Lib.hid ho9
   clear hown9 ho9
   go_wp2_with fail
   go_roundw
   case rel =>
    refine ⟨j + 1, by omega, by go_num, (Ho.out.alloc _).trans Ho9.out, ?_⟩
    rw [arrC_cong (c := asgN (m.2.1.take (j + 1))) (fun s _ => Hs.out s)]
    exact Hown9.out
   case measure => simp [intOf]; omega
  ·have hge : (na : Int) ≤ (j : Int) := by omega
   have hjn : j = na := by omega
   have HOw1 := Lib.hid (show wr.ownsRow 0 3 1 (.slice (some ⟨w.heap.size + 1 + 1, 0, none⟩) ns ns) ns (ints (arrC ns (fun s => asgN m.2.1 s + memN (m.2.2.2.take 0) s))) by
    have h1 := Hown.out
    rw [List.take_of_length_le (by have := Hn.out.2.1; omega)] at h1
    rw [arrC_cong (c' := asgN m.2.1) (fun s _ => by simp [memN])]
    exact h1)
   have HXm1 := Lib.hid (Ho.out.blk HXm.out (by omega))
   clear hjn
   obtain ⟨y0, y1, y2, y3⟩ := blkS4 HXm1.out
   go_wp2_with fail
   clear y0 y1 y2 y3
   have HO1 := Ho
   go_loopw [11, 42] (fun _ iv wr => ∃ j : Nat, j ≤ nm ∧ iv = .int .i64 j ∧ Only (fun b => b = w.heap.size + 1 + 1) W0 wr ∧ wr.ownsRow 0 3 1 (.slice (some ⟨w.heap.size + 1 + 1, 0, none⟩) ns ns) ns (ints (arrC ns (fun s => asgN m.2.1 s + memN (m.2.2.2.take j) s)))) (fun _ iv _ => nm - (intOf iv).toNat)
   case atStart => exact ⟨0, Nat.zero_le _, rfl, Ho.out, HOw1.out⟩
   case round =>
    clear HOw1 HXm1 Hbw hsz
    obtain ⟨j2, hj2, rfl, ho2, hown2⟩ := hrel
    have Ho2 := Lib.hid ho2
    have Hown2 := Lib.hid hown2
    have hsz2 := ho2.size
    have Hbw2 := Lib.hid (HB0.out.trans (ho2.below (B := w.heap.size) (by omega) (fun b hb => by omega)))
    clear ho2 hown2
    by_cases hlt2 : j2 < nm
    ·obtain ⟨ad2, m0, m1, m2, m3, rfl, hab2, hx, t0, t1, t2, t3⟩ := fMemS_row (HMe.out.under hS Hbw2.out) hlt2
     have g1 : (0 : Int) ≤ (j2 : Int) := by omega
     have g2 : (j2 : Int) < (nm : Int) := by omega
     have Hs := Lib.hid (fun s => memN_succ hx s)
     clear hx
     go_wp2_with fail
     refine (i_add (base := 0) (g := w.heap.size + 1 + 1 + 1) (h := w.heap.size + 1 + 1) (n := ns) (c := ns) m3 ((Ho2.out.blk HXo.out (by omega)).alloc _) (Hown2.out.alloc _) (by omega) (arrC_mem (M := 500) (fun s => by have h1 := asgN_le m.2.1 s; have h2 := memN_le (m.2.2.2.take j2) s; rw [List.length_take] at h2; have := Hn.out.2.1; omega) (by omega))).mono ?_
     rintro e w9 ⟨rfl, hown9, ho9⟩
     rw [bump_arr] at hown9
     have Hown9 := Lib.hid hown9
     have Ho9 := Lib.hid ho9
     clear hown9 ho9
     go_wp2_with fail
     go_roundw
     case rel =>
      refine ⟨j2 + 1, by omega, by go_num, (Ho2.out.alloc _).trans Ho9.out, ?_⟩
      rw [arrC_cong (c := fun s => asgN m.2.1 s + memN (m.2.2.2.take (j2 + 1)) s) (fun s _ => by rw [Hs.out s, ← Nat.add_assoc])]
      exact Hown9.out
     case measure => simp [intOf]; omega
    ·have hge2 : (nm : Int) ≤ (j2 : Int) := by omega
     have hjn2 : j2 = nm := by omega
     have HOw2 := Lib.hid (show wr.ownsRow 0 3 1 (.slice (some ⟨w.heap.size + 1 + 1, 0, none⟩) ns ns) ns (ints (arrC ns (fun s => asgN m.2.1 s + memN m.2.2.2 s + insN d (m.2.2.1.take 0) s))) by
      have h1 := Hown2.out
      rw [List.take_of_length_le (by have := Hn.out.2.2.2; omega)] at h1
      rw [arrC_cong (c' := fun s => asgN m.2.1 s + memN m.2.2.2 s) (fun s _ => by simp [insN])]
      exact h1)
     have HXm2 := Lib.hid (Ho2.out.blk HXm.out (by omega))
     clear hjn2
     obtain ⟨y0, y1, y2, y3⟩ := blkS4 HXm2.out
     go_wp2_with fail
     clear y0 y1 y2 y3
     have HO3 := Ho2
     go_loopw [13, 14, 15, 16, 54, 67] (fun _ _ _ _ iv _ wr => ∃ j : Nat, j ≤ ni ∧ iv = .int .i64 j ∧ Only (fun b => b = w.heap.size + 1 + 1) W0 wr ∧ wr.ownsRow 0 3 1 (.slice (some ⟨w.heap.size + 1 + 1, 0, none⟩) ns ns) ns (ints (arrC ns (fun s => asgN m.2.1 s + memN m.2.2.2 s + insN d (m.2.2.1.take j) s)))) (fun _ _ _ _ iv _ _ => ni - (intOf iv).toNat)
     case atStart => exact ⟨0, Nat.zero_le _, rfl, Ho2.out, HOw2.out⟩
     case round =>
      clear HOw2 HXm2 Hbw2 hsz2
      obtain ⟨j3, hj3, rfl, ho3, hown3⟩ := hrel
      have Ho3 := Lib.hid ho3
      have Hown3 := Lib.hid hown3
      have hsz3 := ho3.size
      have Hbw3 := Lib.hid (HB0.out.trans (ho3.below (B := w.heap.size) (by omega) (fun b hb => by omega)))
      clear ho3 hown3
      by_cases hlt3 : j3 < ni
      ·obtain ⟨ad2, a, pr, ps, A2', c2', rfl, hab2, hx, hrp, hpm, t0, t1, t2⟩ := ins_row (HIn.out.under hS Hbw3.out) hlt3
       have g1 : (0 : Int) ≤ (j3 : Int) := by omega
       have g2 : (j3 : Int) < (ni : Int) := by omega
       unfold maxLen at hpm
       have Hs := Lib.hid (fun s => insN_succ (d := d) hx s)
       have hib3 : insB d k (a, pr, ps) = true := List.all_eq_true.1 Hib.out _ (List.mem_of_getElem? hx)
       simp only [insB, Bool.and_eq_true, decide_eq_true_eq] at hib3
       obtain ⟨hia, hipl⟩ := hib3
       have hq1 := (inR_iff.1 hia).1
       have hq2 := (inR_iff.1 hia).2
       obtain ⟨p, rfl⟩ := Int.eq_ofNat_of_zero_le hq1
       have hpn : p < n := by omega
       have g3 : (p : Int) < (n : Int) := by omega
       have g4 : (0 : Int) ≤ (p : Int) := by omega
       have Hrp := Lib.hid hrp
       obtain ⟨ad3, m', B0, d0, B1, d1, B2, d2, B3, d3, hAe, hab4, hx', hRm', hml', r0, r1, r2, r3⟩ := mod_row ((HR.out.under hS (Hbw3.out.alloc (by omega) (.cells #[.int .i64 p, .int .i64 pr, .slice A2' ps.length c2'] 78)))) hpn
       obtain rfl : ad = ad3 := by injection hAe
       have hmd' := md_get hx'
       rw [hmd'] at hipl
       have hIN : ∀ s, instN d ((p : Int), pr, ps) s = portN m'.1 ((portsM m').zip ps) s := fun s => by simp only [instN, hmd']
       have HIN := Lib.hid hIN
       have HRm' := Lib.hid hRm'
       obtain ⟨P, hP⟩ : ∃ P, P = portsM m' := ⟨_, rfl⟩
       have hPl : P.length ≤ 30 := by rw [hP]; exact portsL_len _
       rw [← hP] at hipl
       have HP := Lib.hid hP
       have Hipl := Lib.hid hipl
       have HXd3 := Lib.hid ((Ho3.out.blk HXd.out (by omega)).alloc (.cells #[.int .i64 p, .int .i64 pr, .slice A2' ps.length c2'] 78))
       have HXi := Lib.hid (Blk.new wr 78 #[.int .i64 p, .int .i64 pr, .slice A2' ps.length c2'])
       obtain ⟨_, _, _, _, _, _, _, _, hae', hSg', _⟩ := mod_open hRm'
       simp only [Value.agg.injEq, Array.mk.injEq, List.cons.injEq, Value.slice.injEq, true_and, and_true] at hae'
       obtain ⟨⟨rfl, rfl⟩, -, -, -⟩ := hae'
       have HSg' := Lib.hid hSg'
       clear hx hrp hia hipl hAe hx' hRm' hml' hmd' hIN hP hq1 hq2 hSg'
       have y0 := blkS1 HXd3.out
       have HXo3 := Lib.hid ((Ho3.out.blk HXo.out (by omega)).alloc (.cells #[.int .i64 p, .int .i64 pr, .slice A2' ps.length c2'] 78))
       have HO31 := Lib.hid (Ho3.out.alloc (.cells #[.int .i64 p, .int .i64 pr, .slice A2' ps.length c2'] 78))
       have Hown31 := Lib.hid (Hown3.out.alloc (.cells #[.int .i64 p, .int .i64 pr, .slice A2' ps.length c2'] 78))
       go_wp2_with fail
       refine (i_PortsOf (RModule.keep HRm'.out (fun q hq => World.cell?_alloc_lt _ _ q (by have := hS _ hq; simp; omega))) (fun b hb => by have := hS b hb; (try simp) <;> omega)).mono ?_
       rintro e W5 ⟨v', rfl, hq8, hb8⟩
       rw [← HP.out] at hq8
       obtain ⟨A8, c8, rfl, hP8, _⟩ := sl_form hq8.rep (List.length_map _)
       have z5 := hb8.size
       simp at z5
       have HP8 := Lib.hid (hP8.mono (S' := fun b => wr.heap.size < b ∧ b < W5.heap.size) (fun b hb => by have := hb; simp [New] at this; omega))
       have HXo5 := Lib.hid ((HXo3.out.alloc _).below hb8 (by simp; omega))
       have HXi5 := Lib.hid ((HXi.out.alloc _).below hb8 (by simp; omega))
       have HXd5 := Lib.hid ((HXd3.out.alloc _).below hb8 (by simp; omega))
       have HXn5 := Lib.hid (Blk.below (blk_new_at (g := wr.heap.size + 1) (by simp)) hb8 (by simp))
       have HO5 := Lib.hid ((HO31.out.alloc _).trans (Only.of_below hb8 _))
       have Hown5 := Lib.hid (own_below (Hown31.out.alloc _) hb8 (Nat.le_refl _))
       have HB5 := Lib.hid (HB0.out.trans (HO5.out.below (B := w.heap.size) (by omega) (fun b hb => by omega)))
       have HSg5 := Lib.hid (Rep.keep (w' := W5) HSg'.out (fun q hq => (hb8.cell (by have := hS _ hq; simp; omega)).trans (World.cell?_alloc_lt _ _ q (by have := hS _ hq; simp; omega))))
       have Hrp5 := Lib.hid (Rep.keep (w' := W5) Hrp.out (fun q hq => (hb8.cell (by have := hS _ hq; simp; omega)).trans ((World.cell?_alloc_lt _ _ q (by have := hS _ hq; simp; omega)).trans (World.cell?_alloc_lt _ _ q (by have := hS _ hq; omega)))))
       clear hq8 hP8 hb8 HXo3 HXi HXd3 HO31 Hown31 y0
       obtain ⟨np, hnp⟩ : ∃ np, P.length = np := ⟨_, rfl⟩
       rw [hnp] at HP8 hPl ⊢
       have Hnp := Lib.hid hnp
       clear hnp
       go_wp2_with fail
       go_loopw [15, 16, 67] (fun _ _ iv wr => ∃ q : Nat, q ≤ np ∧ iv = .int .i64 q ∧ Only (fun b => b = w.heap.size + 1 + 1) W5 wr ∧ wr.ownsRow 0 3 1 (.slice (some ⟨w.heap.size + 1 + 1, 0, none⟩) ns ns) ns (ints (arrC ns (fun s => asgN m.2.1 s + memN m.2.2.2 s + insN d (m.2.2.1.take j3) s + portN m'.1 ((P.zip ps).take q) s)))) (fun _ _ iv _ => np - (intOf iv).toNat)
       case atStart => exact ⟨0, Nat.zero_le _, rfl, Only.refl _ _, by rw [arrC_cong (c' := fun s => asgN m.2.1 s + memN m.2.2.2 s + insN d (m.2.2.1.take j3) s) (fun s _ => by simp [portN])]; exact Hown5.out⟩
       case round =>
        obtain ⟨q, hq, rfl, ho4, hown4⟩ := hrel
        have Ho4 := Lib.hid ho4
        have Hown4 := Lib.hid hown4
        have z6 := ho4.size
        have hkp : ∀ b, S b → ¬ b = w.heap.size + 1 + 1 := fun b hb => by have := hS b hb; omega
        clear ho4 hown4 Hown5
        by_cases hlt4 : q < np
        ·obtain ⟨ad8, y, rfl, hab8, hy, cP⟩ := fIntS_row (Rep.keep HP8.out (fun p hp => Ho4.out.cell hp.2 (by have := hp.1; omega))) hlt4
         obtain ⟨ix, sy, rfl, hsy⟩ := ports_mem (m := m') (by rw [← HP.out]; exact hy)
         have hil := (List.getElem?_eq_some_iff.1 hsy).1
         obtain ⟨ad9, x0, x1, x2, rfl, hab9, hx9, s0, s1, s2⟩ := fSignalS_row (Rep.keep HSg5.out (fun p hp => Ho4.out.cell (by have := hS _ hp; omega) (hkp _ hp))) hil
         obtain ⟨ad7, zz, rfl, hab7, hz7, cz⟩ := fIntS_row (Rep.keep Hrp5.out (fun p hp => Ho4.out.cell (by have := hS _ hp; omega) (hkp _ hp))) (show q < ps.length by rw [Hipl.out, Hnp.out]; exact hlt4)
         have hzip : (P.zip ps)[q]? = some ((ix : Int), zz) := List.getElem?_zip_eq_some.2 ⟨hy, hz7⟩
         have Hsp := Lib.hid (fun s => portN_succ (sg := m'.1) hzip s)
         have Hka := Lib.hid (show kindAt m'.1 (ix : Int) = x0 by simp [kindAt, List.getD, hx9])
         have g7 : (0 : Int) ≤ (q : Int) := by omega
         have g8 : (q : Int) < (np : Int) := by omega
         have g9 : (0 : Int) ≤ (ix : Int) := by omega
         have g10 : (ix : Int) < (m'.1.length : Int) := by omega
         have g11 : (q : Int) < (ps.length : Int) := by have := Hipl.out; have := Hnp.out; omega
         obtain ⟨yi0, yi1, yi2⟩ := (show _ ∧ _ ∧ _ from ⟨(Ho4.out.blk HXi5.out (by omega)).cell 0, (Ho4.out.blk HXi5.out (by omega)).cell 1, (Ho4.out.blk HXi5.out (by omega)).cell 2⟩)
         simp only [List.getElem?_toArray, List.getElem?_cons_zero, List.getElem?_cons_succ] at yi0 yi1 yi2
         obtain ⟨yn0, yn1, yn2, yn3⟩ := blkS4 (Ho4.out.blk HXn5.out (by omega))
         clear hy hsy hx9 hz7 hzip
         by_cases hk1 : x0 = 1
         ·subst hk1
          go_wp2_with fail
          refine (i_add (base := 0) (g := w.heap.size + 1 + 1 + 1) (h := w.heap.size + 1 + 1) (n := ns) (c := ns) zz (Ho4.out.blk HXo5.out (by omega)) Hown4.out (by omega) (arrC_mem (M := 500) (fun s => by have h1 := asgN_le m.2.1 s; have h2 := memN_le m.2.2.2 s; have h3 := insN_le d (m.2.2.1.take j3) s; have h4 := portN_le m'.1 ((P.zip ps).take q) s; rw [List.length_take] at h3 h4; have := Hn.out.2.1; have := Hn.out.2.2.2; omega) (by omega))).mono ?_
          rintro e w9 ⟨rfl, hown9, ho9⟩
          rw [bump_arr] at hown9
          have Hown9 := Lib.hid hown9
          have Ho9 := Lib.hid ho9
          clear hown9 ho9
          go_wp2_with fail
          go_roundw
          case rel =>
           refine ⟨q + 1, by omega, by go_num, Ho4.out.trans Ho9.out, ?_⟩
           rw [arrC_cong (c := fun s => asgN m.2.1 s + memN m.2.2.2 s + insN d (m.2.2.1.take j3) s + portN m'.1 ((P.zip ps).take (q + 1)) s) (c' := fun s => asgN m.2.1 s + memN m.2.2.2 s + insN d (m.2.2.1.take j3) s + portN m'.1 ((P.zip ps).take q) s + if zz = (s : Int) then 1 else 0) (fun s _ => by rw [Hsp.out s, Hka.out]; simp only [true_and]; rw [← Nat.add_assoc])]
           exact Hown9.out
          case measure => simp [intOf]; omega
         ·have qz : (x0 == 1) = false := by simpa using hk1
          have Hk1 := Lib.hid hk1
          clear hk1
          go_wp2_with fail
          go_roundw
          case rel =>
           refine ⟨q + 1, by omega, by go_num, Ho4.out, ?_⟩
           rw [arrC_cong (c := fun s => asgN m.2.1 s + memN m.2.2.2 s + insN d (m.2.2.1.take j3) s + portN m'.1 ((P.zip ps).take (q + 1)) s) (fun s _ => by rw [Hsp.out s, Hka.out, if_neg (fun hc => Hk1.out hc.1), Nat.add_zero])]
           exact Hown4.out
          case measure => simp [intOf]; omega
        ·have hge4 : (np : Int) ≤ (q : Int) := by omega
         have hqn : q = np := by omega
         have Hown6 := Lib.hid (show wr.ownsRow 0 3 1 (.slice (some ⟨w.heap.size + 1 + 1, 0, none⟩) ns ns) ns (ints (arrC ns (fun s => asgN m.2.1 s + memN m.2.2.2 s + insN d (m.2.2.1.take (j3 + 1)) s))) by
          rw [arrC_cong (c' := fun s => asgN m.2.1 s + memN m.2.2.2 s + insN d (m.2.2.1.take j3) s + portN m'.1 ((P.zip ps).take q) s) (fun s _ => by rw [Hs.out s, HIN.out s, ← HP.out, List.take_of_length_le (l := P.zip ps) (by rw [List.length_zip]; have := Hnp.out; omega), ← Nat.add_assoc])]
          exact Hown4.out)
         clear hqn
         go_wp2_with fail
         go_roundw
         case rel => exact ⟨j3 + 1, by omega, by go_num, HO5.out.trans Ho4.out, Hown6.out⟩
         case measure => simp [intOf]; omega
      ·have hge3 : (ni : Int) ≤ (j3 : Int) := by omega
       have hjn3 : j3 = ni := by omega
       have HOF := Lib.hid (show wr.ownsRow 0 3 1 (.slice (some ⟨w.heap.size + 1 + 1, 0, none⟩) ns ns) ns (ints (arrC ns (drvN d m))) by
        have h1 := Hown3.out
        rw [List.take_of_length_le (by have := Hn.out.2.2.1; omega)] at h1
        exact h1)
       have yo := blkS1 (Ho3.out.blk HXo.out (by omega))
       clear hjn3
       go_wp2_with fail
       go_ret
       exact ⟨_, rfl, (sep_ints (by unfold maxLen; omega) HOF.out (fun g hg => by injection hg with hg; subst hg; exact ⟨by show w.heap.size ≤ w.heap.size + 1 + 1; omega, by show w.heap.size + 1 + 1 < wr.heap.size; omega⟩)).rep, Hbw3.out⟩
end Go.Proofs.YthjdigcpgpiiiaaDoor

/- Contracts: the drivers of a signal: the program's function. -/
namespace Go.Proofs.YthjdigcpgpiiiaaDoor
open Go.RowKit

/-- how often a signal is driven, -1 if the design is not so far valid -/
def dcB (d : TDesign) (k s : Int) : Int := if l04C d k && inR s 0 ((md d k).1.length - 1) then ((drvN d (md d k) s.toNat : Nat) : Int) else -1
theorem dcB_no {d : TDesign} {k s : Int} (h : l04C d k = false ∨ inR s 0 ((md d k).1.length - 1) = false) : dcB d k s = -1 := by
 unfold dcB
 rcases h with h | h <;> simp [h]
theorem drvN_le {d : TDesign} {m : TModule} (h : cntOk1 m = true) (s : Nat) : drvN d m s ≤ 500 := by
 obtain ⟨h1, h2, h3, h4⟩ := cntOk1_iff.1 h
 have a := asgN_le m.2.1 s
 have b := memN_le m.2.2.2 s
 have c := insN_le d m.2.2.1 s
 unfold drvN
 omega
end Go.Proofs.YthjdigcpgpiiiaaDoor

/- Contracts: the lists and instances of a design: the reference's function. -/
namespace Go.Proofs.YthjdigcpgpiiiaaDoor
open Go.RowKit

set_option maxRecDepth 100000 in
set_option maxHeartbeats 8000000 in
theorem s_l04Counts {w : World} {S : Nat → Prop} {v : Value} {d : TDesign} (k : Int) (h : RDesign w S v d) (hS : ∀ b, S b → b < w.heap.size) :
  Calls Tryd.prog 62 #[v, .int .i64 k] w fun e w' => e = .returned (.bool (l04C d k)) ∧ Below w.heap.size w w' := by
 obtain ⟨A, c, rfl, hr, hm⟩ := dsn_open h
 obtain ⟨n, hl⟩ : ∃ n, d.length = n := ⟨_, rfl⟩
 rw [hl] at hr hm h ⊢
 have Hl := Lib.hid hl
 unfold maxLen at hm
 clear h hl
 by_cases h4 : n ≤ 4
 ·by_cases hk0 : 0 ≤ k
  ·obtain ⟨kn, rfl⟩ := Int.eq_ofNat_of_zero_le hk0
   by_cases hk1 : kn < n
   ·have g5 : (0 : Int) ≤ (kn : Int) := by omega
    have g6 : (kn : Int) < (n : Int) := by omega
    have HR := Lib.hid hr
    obtain ⟨ad, m, A0, c0, A1, c1, A2, c2, A3, c3, rfl, hab, hx, hRm, hml, -, -, -, -⟩ := mod_row hr hk1
    have Hmd := Lib.hid (md_get hx)
    have hab1 := hS _ hab
    have hpl := hml.2.2.1
    unfold maxLen at hpl
    obtain ⟨_, _, _, _, _, _, _, _, hae, _, _, hI, _⟩ := mod_open hRm
    simp only [Value.agg.injEq, Array.mk.injEq, List.cons.injEq, Value.slice.injEq, true_and, and_true] at hae
    obtain ⟨⟨-, -⟩, ⟨-, -⟩, ⟨rfl, rfl⟩, -, -⟩ := hae
    obtain ⟨ni, hni⟩ : ∃ ni, m.2.2.1.length = ni := ⟨_, rfl⟩
    rw [hni] at hI hpl
    have Hni := Lib.hid hni
    have HI := Lib.hid hI
    have HRm := Lib.hid hRm
    have Hx0 := Lib.hid hx
    clear hx hRm hml hni hr hI
    go_enter Tryd.func62, Tryd.ntmps62
    go_wp2_with fail
    simp only [show decide (n ≤ kn) = false from decide_eq_false (by omega), show decide ((4 : Int) < (n : Int)) = false from decide_eq_false (by omega), show decide ((kn : Int) < 0) = false from decide_eq_false (by omega), Bool.or_self]
    go_loopw [5, 6] (fun iv _ wr => ∃ j : Nat, j ≤ n ∧ iv = .int .i64 j ∧ Hid ((d.take j).all cntOk1 = true) ∧ Blk wr w.heap.size 24 #[.slice (some ad) n c] ∧ Below w.heap.size w wr) (fun iv _ _ => n - (intOf iv).toNat)
    case atStart => exact ⟨0, Nat.zero_le _, rfl, Lib.hid rfl, Blk.new _ _ _, bel_⟩
    case round =>
     obtain ⟨j, hj, rfl, Hok, hD, hb⟩ := hrel
     have Hb := Lib.hid hb
     have HD := Lib.hid hD
     have hsz := hb.size
     have hlt0 := hD.lt
     have yd := blkS1 hD
     clear hb hD
     by_cases hlt : j < n
     ·obtain ⟨adx, m1, B0, b0, B1, b1, B2, b2, B3, b3, hAe, hab2, hx, hR1, hml1, e0, e1, e2, e3⟩ := mod_row (HR.out.under hS Hb.out) hlt
      obtain rfl : ad = adx := by injection hAe
      have Hx := Lib.hid hx
      have g1 : (0 : Int) ≤ (j : Int) := by omega
      have g2 : (j : Int) < (n : Int) := by omega
      have Hb2 := Lib.hid (Hb.out.alloc hsz (.cells #[.slice B0 m1.1.length b0, .slice B1 m1.2.1.length b1, .slice B2 m1.2.2.1.length b2, .slice B3 m1.2.2.2.length b3] 42))
      have Hs := Lib.hid (all_take (p := cntOk1) hx)
      clear hR1 hml1 hx hAe
      by_cases q0 : m1.1.length ≤ 30
      ·by_cases q1 : m1.2.1.length ≤ 30
       ·by_cases q2 : m1.2.2.1.length ≤ 3
        ·by_cases q3 : m1.2.2.2.length ≤ 2
         ·have Hq := Lib.hid (cntOk1_iff.2 ⟨q0, q1, q2, q3⟩)
          go_wp2_with fail
          go_roundw
          case rel => exact ⟨j + 1, by omega, by go_num, Lib.hid (by rw [Hs.out, Hok.out, Hq.out]; rfl), HD.out.alloc _, Hb2.out⟩
          case measure => simp [intOf]; omega
         ·go_wp2_with fail
          go_ret
          exact ⟨ret_bool (by unfold l04C countsB; rw [all_not Hx.out (by simp only [cntOk1]; simp; omega), Bool.and_false, Bool.false_and, Bool.and_false]), Hb2.out⟩
        ·go_wp2_with fail
         go_ret
         exact ⟨ret_bool (by unfold l04C countsB; rw [all_not Hx.out (by simp only [cntOk1]; simp; omega), Bool.and_false, Bool.false_and, Bool.and_false]), Hb2.out⟩
       ·go_wp2_with fail
        go_ret
        exact ⟨ret_bool (by unfold l04C countsB; rw [all_not Hx.out (by simp only [cntOk1]; simp; omega), Bool.and_false, Bool.false_and, Bool.and_false]), Hb2.out⟩
      ·go_wp2_with fail
       go_ret
       exact ⟨ret_bool (by unfold l04C countsB; rw [all_not Hx.out (by simp only [cntOk1]; simp; omega), Bool.and_false, Bool.false_and, Bool.and_false]), Hb2.out⟩
     ·have hjn : j = n := by omega
      have hge : (n : Int) ≤ (j : Int) := by omega
      have Hcb := Lib.hid (show countsB d = true by
       have h1 := Hok.out
       rw [List.take_of_length_le (by rw [Hl.out]; omega)] at h1
       unfold countsB
       rw [h1, Hl.out, decide_eq_true h4]
       rfl)
      clear hjn
      go_wp2_with fail
      clear yd
      go_loopw [7, 8] (fun iv _ wr => ∃ j : Nat, j ≤ ni ∧ iv = .int .i64 j ∧ Hid ((m.2.2.1.take j).all (insB d kn) = true) ∧ Blk wr w.heap.size 24 #[.slice (some ad) n c] ∧ Below w.heap.size w wr) (fun iv _ _ => ni - (intOf iv).toNat)
      case atStart => exact ⟨0, Nat.zero_le _, rfl, Lib.hid rfl, HD.out, Hb.out⟩
      case round =>
       clear HD Hb hsz hlt0
       obtain ⟨i, hi, rfl, Hok2, hD, hb⟩ := hrel
       have Hb := Lib.hid hb
       have HD := Lib.hid hD
       have hsz := hb.size
       have hlt0 := hD.lt
       have yd := blkS1 hD
       clear hb hD
       obtain ⟨adx, m9, B0, b0, B1, b1, B2, b2, B3, b3, hAe, _, hx9, hR9, hml9, e0, e1, e2, e3⟩ := mod_row (HR.out.under hS Hb.out) hk1
       obtain rfl : ad = adx := by injection hAe
       obtain rfl : m = m9 := by have h1 := Hx0.out; rw [hx9] at h1; injection h1 with h1; exact h1.symm
       rw [Hni.out] at e2
       obtain ⟨_, _, _, _, _, _, _, _, hae9, _, _, hI9, _⟩ := mod_open hR9
       simp only [Value.agg.injEq, Array.mk.injEq, List.cons.injEq, Value.slice.injEq, true_and, and_true] at hae9
       obtain ⟨⟨-, -⟩, ⟨-, -⟩, ⟨rfl, rfl⟩, -, -⟩ := hae9
       rw [Hni.out] at hI9
       clear hx9 hR9 hml9 hAe e0 e1 e3
       by_cases hlt2 : i < ni
       ·obtain ⟨ad2, a, b, ps, A2', c2', rfl, hab2, hx, hrp, hpm, f0, f1, f2⟩ := ins_row hI9 hlt2
        have Hx := Lib.hid hx
        have g1 : (0 : Int) ≤ (i : Int) := by omega
        have g2 : (i : Int) < (ni : Int) := by omega
        have hab3 := hS _ hab2
        have Hb2 := Lib.hid (Hb.out.alloc hsz (.cells #[.int .i64 a, .int .i64 b, .slice A2' ps.length c2'] 78))
        have Hs := Lib.hid (all_take (p := insB d kn) hx)
        unfold maxLen at hpm
        clear hx
        by_cases ha0 : 0 ≤ a
        ·obtain ⟨p, rfl⟩ := Int.eq_ofNat_of_zero_le ha0
         by_cases hpk : p < kn
         ·have hpn : p < n := by omega
          have g3 : (p : Int) < (n : Int) := by omega
          have g7 : (p : Int) < (kn : Int) := by omega
          have hn1 : ¬ kn ≤ p := by omega
          have hn2 : ¬ (kn : Int) ≤ (p : Int) := by omega
          have hn3 : ¬ (p : Int) < 0 := by omega
          obtain ⟨ad3, m', D0, d0, D1, d1, D2, d2, D3, d3, hAe, hab4, hx', hRm', hml', t0, t1, t2, t3⟩ := mod_row ((HR.out.under hS Hb2.out)) hpn
          obtain rfl : ad = ad3 := by injection hAe
          have Hmd' := Lib.hid (md_get hx')
          have hbl : ad.block < (wr.alloc (.cells #[.int .i64 p, .int .i64 b, .slice A2' ps.length c2'] 78)).heap.size := by simp; omega
          have HRm' := Lib.hid hRm'
          clear hx' hRm' hml' hAe
          obtain ⟨P, hP⟩ : ∃ P, P = portsM m' := ⟨_, rfl⟩
          have HP := Lib.hid hP
          have hPl : P.length ≤ 30 := by rw [hP]; exact portsL_len _
          clear hP
          have Hins := Lib.hid (show insB d kn (p, b, ps) = decide (ps.length = P.length) by simp only [insB]; rw [show inR (p : Int) 0 ((kn : Int) - 1) = true from inR_iff.2 (by omega), Hmd'.out, HP.out]; rfl)
          by_cases hpe : ps.length = P.length
          ·have hpe' : ((ps.length : Int) != (P.length : Int)) = false := by simp; omega
           have Hpe := Lib.hid hpe
           clear hpe
           have HX := Lib.hid (Blk.new wr 78 #[.int .i64 p, .int .i64 b, .slice A2' ps.length c2'])
           have Hd0 := Lib.hid (HD.out.alloc (.cells #[.int .i64 p, .int .i64 b, .slice A2' ps.length c2'] 78))
           obtain ⟨W1, hW1⟩ : ∃ W1, W1 = wr.alloc (.cells #[.int .i64 p, .int .i64 b, .slice A2' ps.length c2'] 78) := ⟨_, rfl⟩
           go_wp2_with fail
           rw [← hW1] at HX Hd0 hbl t0 t1 t2 t3 HRm' Hb2 ⊢
           have hlx : wr.heap.size < W1.heap.size := HX.out.lt
           have hld : w.heap.size < W1.heap.size := Hd0.out.lt
           have hlw : w.heap.size ≤ W1.heap.size := by omega
           clear hW1
           refine wp_region_lexC (by kernel_rfl) (by kernel_rfl) (fun x => Below W1.heap.size W1 x) ((Below.refl _ _).drew) (fun lexNE => ?_)
           obtain ⟨cX0, cX1, cX2⟩ := bwS3 HX.out hlx
           have cD0 := bwS1 Hd0.out hld
           have ct0 := wcell t0 (by rw [block_of_add]; exact hbl)
           have ct1 := wcell t1 (by rw [nxt_block]; exact hbl)
           have ct2 := wcell t2 (by rw [nxt_block]; exact hbl)
           have ct3 := wcell t3 (by rw [nxt_block]; exact hbl)
           (repeat (first | (refine lex_r fun K hK => ?_; go_big_quiet_op; refine hK _ ?_; clear hK K) | (refine lex_k fun K hK => ?_; go_simp; refine hK _ ?_; clear hK K)))
           (refine lex_e fun K hK => ?_; go_big_op)
           refine (s_PortsOf (HRm'.out.keep (w' := W1.drew) (fun _ _ => rfl)) (fun b hb => Nat.lt_of_lt_of_le (hS b hb) hlw)).mono ?_
           rintro e w8 ⟨v', rfl, hq8, hb8⟩
           rw [← HP.out] at hq8
           obtain ⟨A8, c8, rfl, _, _⟩ := sl_form hq8.rep (List.length_map _)
           have H8 := Lib.hid ((Below.refl W1.heap.size W1).drew.trans hb8)
           refine hK _ _ (Cls.mk' H8.out) ?_
           clear hK K hq8 hb8
           (repeat (first | (refine lex_r fun K hK => ?_; go_big_quiet_op; refine hK _ ?_; clear hK K) | (refine lex_k fun K hK => ?_; go_simp; refine hK _ ?_; clear hK K)))
           (refine lex_nil ?_)
           clear lexNE cX0 cX1 cX2 cD0 ct0 ct1 ct2 ct3
           have Hf := H8
           have HDf := Lib.hid (Hd0.out.below H8.out hld)
           go_wp2_with fail
           go_roundw
           case rel => exact ⟨i + 1, by omega, by go_num, Lib.hid (by rw [Hs.out, Hok2.out, Hins.out, Hpe.out]; simp), HDf.out, Hb2.out.trans (Hf.out.mono hlw)⟩
           case measure => simp [intOf]; omega
          ·have hpe' : ((ps.length : Int) != (P.length : Int)) = true := by simp; omega
           have Hpe := Lib.hid hpe
           clear hpe
           have HX := Lib.hid (Blk.new wr 78 #[.int .i64 p, .int .i64 b, .slice A2' ps.length c2'])
           have Hd0 := Lib.hid (HD.out.alloc (.cells #[.int .i64 p, .int .i64 b, .slice A2' ps.length c2'] 78))
           obtain ⟨W1, hW1⟩ : ∃ W1, W1 = wr.alloc (.cells #[.int .i64 p, .int .i64 b, .slice A2' ps.length c2'] 78) := ⟨_, rfl⟩
           go_wp2_with fail
           rw [← hW1] at HX Hd0 hbl t0 t1 t2 t3 HRm' Hb2 ⊢
           have hlx : wr.heap.size < W1.heap.size := HX.out.lt
           have hld : w.heap.size < W1.heap.size := Hd0.out.lt
           have hlw : w.heap.size ≤ W1.heap.size := by omega
           clear hW1
           refine wp_region_lexC (by kernel_rfl) (by kernel_rfl) (fun x => Below W1.heap.size W1 x) ((Below.refl _ _).drew) (fun lexNE => ?_)
           obtain ⟨cX0, cX1, cX2⟩ := bwS3 HX.out hlx
           have cD0 := bwS1 Hd0.out hld
           have ct0 := wcell t0 (by rw [block_of_add]; exact hbl)
           have ct1 := wcell t1 (by rw [nxt_block]; exact hbl)
           have ct2 := wcell t2 (by rw [nxt_block]; exact hbl)
           have ct3 := wcell t3 (by rw [nxt_block]; exact hbl)
           (repeat (first | (refine lex_r fun K hK => ?_; go_big_quiet_op; refine hK _ ?_; clear hK K) | (refine lex_k fun K hK => ?_; go_simp; refine hK _ ?_; clear hK K)))
           (refine lex_e fun K hK => ?_; go_big_op)
           refine (s_PortsOf (HRm'.out.keep (w' := W1.drew) (fun _ _ => rfl)) (fun b hb => Nat.lt_of_lt_of_le (hS b hb) hlw)).mono ?_
           rintro e w8 ⟨v', rfl, hq8, hb8⟩
           rw [← HP.out] at hq8
           obtain ⟨A8, c8, rfl, _, _⟩ := sl_form hq8.rep (List.length_map _)
           have H8 := Lib.hid ((Below.refl W1.heap.size W1).drew.trans hb8)
           refine hK _ _ (Cls.mk' H8.out) ?_
           clear hK K hq8 hb8
           (repeat (first | (refine lex_r fun K hK => ?_; go_big_quiet_op; refine hK _ ?_; clear hK K) | (refine lex_k fun K hK => ?_; go_simp; refine hK _ ?_; clear hK K)))
           (refine lex_nil ?_)
           clear lexNE cX0 cX1 cX2 cD0 ct0 ct1 ct2 ct3
           have Hf := H8
           have HDf := Lib.hid (Hd0.out.below H8.out hld)
           go_wp2_with fail
           go_ret
           exact ⟨ret_bool (by unfold l04C instsB; rw [Hmd.out, all_not Hx.out (by rw [Hins.out]; simpa using Hpe.out), Bool.and_false, Bool.and_false]), Hb2.out.trans (Hf.out.mono hlw)⟩
         ·have hpk' : (kn : Int) ≤ (p : Int) := by omega
          have Hins := Lib.hid (show insB d kn (p, b, ps) = false by simp only [insB]; rw [show inR (p : Int) 0 ((kn : Int) - 1) = false by rw [Bool.eq_false_iff]; intro hc; have := inR_iff.1 hc; omega]; rfl)
          have HX := Lib.hid (Blk.new wr 78 #[.int .i64 (p : Int), .int .i64 b, .slice A2' ps.length c2'])
          have Hd0 := Lib.hid (HD.out.alloc (.cells #[.int .i64 (p : Int), .int .i64 b, .slice A2' ps.length c2'] 78))
          obtain ⟨W1, hW1⟩ : ∃ W1, W1 = wr.alloc (.cells #[.int .i64 (p : Int), .int .i64 b, .slice A2' ps.length c2'] 78) := ⟨_, rfl⟩
          go_wp2_with fail
          rw [← hW1] at HX Hd0 Hb2 ⊢
          have hlx : wr.heap.size < W1.heap.size := HX.out.lt
          have hld : w.heap.size < W1.heap.size := Hd0.out.lt
          have hlw : w.heap.size ≤ W1.heap.size := by omega
          clear hW1
          refine wp_region_lexC (by kernel_rfl) (by kernel_rfl) (fun x => Below W1.heap.size W1 x) ((Below.refl _ _).drew) (fun lexNE => ?_)
          obtain ⟨cX0, cX1, cX2⟩ := bwS3 HX.out hlx
          have cD0 := bwS1 Hd0.out hld
          (repeat (first | (refine lex_r fun K hK => ?_; go_big_quiet_op; refine hK _ ?_; clear hK K) | (refine lex_k fun K hK => ?_; go_simp; refine hK _ ?_; clear hK K)))
          (refine lex_nil ?_)
          clear lexNE cX0 cX1 cX2 cD0
          go_wp2_with fail
          go_ret
          exact ⟨ret_bool (by unfold l04C instsB; rw [Hmd.out, all_not Hx.out Hins.out, Bool.and_false, Bool.and_false]), Hb2.out.drew⟩
        ·have ha0' : a < 0 := by omega
         have Hins := Lib.hid (show insB d kn (a, b, ps) = false by simp only [insB]; rw [show inR a 0 ((kn : Int) - 1) = false by rw [Bool.eq_false_iff]; intro hc; have := inR_iff.1 hc; omega]; rfl)
         clear ha0
         have HX := Lib.hid (Blk.new wr 78 #[.int .i64 a, .int .i64 b, .slice A2' ps.length c2'])
         have Hd0 := Lib.hid (HD.out.alloc (.cells #[.int .i64 a, .int .i64 b, .slice A2' ps.length c2'] 78))
         obtain ⟨W1, hW1⟩ : ∃ W1, W1 = wr.alloc (.cells #[.int .i64 a, .int .i64 b, .slice A2' ps.length c2'] 78) := ⟨_, rfl⟩
         go_wp2_with fail
         rw [← hW1] at HX Hd0 Hb2 ⊢
         have hlx : wr.heap.size < W1.heap.size := HX.out.lt
         have hld : w.heap.size < W1.heap.size := Hd0.out.lt
         have hlw : w.heap.size ≤ W1.heap.size := by omega
         clear hW1
         refine wp_region_lexC (by kernel_rfl) (by kernel_rfl) (fun x => Below W1.heap.size W1 x) ((Below.refl _ _).drew) (fun lexNE => ?_)
         obtain ⟨cX0, cX1, cX2⟩ := bwS3 HX.out hlx
         have cD0 := bwS1 Hd0.out hld
         (repeat (first | (refine lex_r fun K hK => ?_; go_big_quiet_op; refine hK _ ?_; clear hK K) | (refine lex_k fun K hK => ?_; go_simp; refine hK _ ?_; clear hK K)))
         (refine lex_nil ?_)
         clear lexNE cX0 cX1 cX2 cD0
         go_wp2_with fail
         go_ret
         exact ⟨ret_bool (by unfold l04C instsB; rw [Hmd.out, all_not Hx.out Hins.out, Bool.and_false, Bool.and_false]), Hb2.out.drew⟩
       ·have hin : i = ni := by omega
        have hge2 : (ni : Int) ≤ (i : Int) := by omega
        have He := Lib.hid (show l04C d kn = true by
         have h1 := Hok2.out
         rw [List.take_of_length_le (by rw [Hni.out]; omega)] at h1
         unfold l04C instsB
         rw [Hmd.out, h1, Hcb.out, decide_eq_true (by have := Hl.out; omega)]
         rfl)
        clear hin
        go_wp2_with fail
        go_ret
        exact ⟨ret_bool He.out.symm, Hb.out⟩
   ·have hk1' : (n : Int) ≤ (kn : Int) := by omega
    go_enter Tryd.func62, Tryd.ntmps62
    go_wp2_with fail
    go_ret
    exact ⟨ret_bool (by unfold l04C; rw [decide_eq_false (by have := Hl.out; omega)]; rfl), bel_⟩
  ·have hk0' : k < 0 := by omega
   go_enter Tryd.func62, Tryd.ntmps62
   go_wp2_with fail
   go_ret
   exact ⟨ret_bool (by unfold l04C; rw [decide_eq_false (by omega)]; rfl), bel_⟩
 ·have h4' : (4 : Int) < (n : Int) := by omega
  go_enter Tryd.func62, Tryd.ntmps62
  go_wp2_with fail
  go_ret
  exact ⟨ret_bool (by unfold l04C countsB; rw [Hl.out, decide_eq_false h4]; simp), bel_⟩
end Go.Proofs.YthjdigcpgpiiiaaDoor

/- Contracts: the drivers of a signal: the reference's function. -/
namespace Go.Proofs.YthjdigcpgpiiiaaDoor
open Go.RowKit

theorem l04C_iff {d : TDesign} {k : Int} : l04C d k = true ↔ (0 ≤ k ∧ k < d.length) ∧ countsB d = true ∧ instsB d k = true := by
 simp [l04C]
theorem inR_no2 {ns sn : Nat} (h : ns ≤ sn) : inR (sn : Int) 0 ((ns : Int) - 1) = false := by rw [Bool.eq_false_iff]; intro hc; have := inR_iff.1 hc; omega
theorem inR_no1 {s : Int} {ns : Nat} (h : s < 0) : inR s 0 ((ns : Int) - 1) = false := by rw [Bool.eq_false_iff]; intro hc; have := inR_iff.1 hc; omega
set_option maxRecDepth 100000 in
set_option maxHeartbeats 8000000 in
theorem s_DriverCount {w : World} {S : Nat → Prop} {v : Value} {d : TDesign} (k s : Int) (h : RDesign w S v d) (hS : ∀ b, S b → b < w.heap.size) :
  Calls Tryd.prog 63 #[v, .int .i64 k, .int .i64 s] w fun e w' => e = .returned (.int .i64 (dcB d k s)) ∧ Below w.heap.size w w' := by
 obtain ⟨A, c, rfl, hr, hm⟩ := dsn_open h
 obtain ⟨n, hl⟩ : ∃ n, d.length = n := ⟨_, rfl⟩
 rw [hl] at hr hm h ⊢
 have Hl := Lib.hid hl
 unfold maxLen at hm
 have HD := Lib.hid (Blk.new w 24 #[.slice A n c])
 have HB := Lib.hid ((Below.refl w.heap.size w).alloc (Nat.le_refl _) (.cells #[.slice A n c] 24))
 have HDk := Lib.hid (RDesign.keep (w' := w.alloc (.cells #[.slice A n c] 24)) h (fun p hp => World.cell?_alloc_lt _ _ p (hS _ hp)))
 have hS1 : ∀ b, S b → b < (w.alloc (.cells #[.slice A n c] 24)).heap.size := fun b hb => by have := hS b hb; simp; omega
 clear hl h
 cases hL : l04C d k with
 | false =>
  have HL := Lib.hid hL
  clear hL
  go_enter Tryd.func63, Tryd.ntmps63
  go_wp2_with fail
  refine (s_l04Counts k HDk.out hS1).mono ?_
  rintro e w1 ⟨rfl, hb1⟩
  rw [HL.out]
  have Hb1 := Lib.hid (HB.out.trans (hb1.mono (by simp)))
  go_wp2_with fail
  go_ret
  exact ⟨ret_int (dcB_no (.inl HL.out)).symm, Hb1.out⟩
 | true =>
  obtain ⟨⟨h1, h2⟩, hcb, hib⟩ := l04C_iff.1 hL
  obtain ⟨kn, rfl⟩ := Int.eq_ofNat_of_zero_le h1
  have hkn : kn < n := by have := Hl.out; omega
  have g5 : (0 : Int) ≤ (kn : Int) := by omega
  have g6 : (kn : Int) < (n : Int) := by omega
  have HL := Lib.hid hL
  have HR := Lib.hid hr
  obtain ⟨ad, m, A0, c0, A1, c1, A2, c2, A3, c3, rfl, hab, hx, hRm, hml, -, -, -, -⟩ := mod_row hr hkn
  have hmd := md_get hx
  have hab1 := hS _ hab
  have hc1 : cntOk1 m = true := by
   unfold countsB at hcb
   simp only [Bool.and_eq_true] at hcb
   exact List.all_eq_true.1 hcb.2 m (List.mem_of_getElem? hx)
  obtain ⟨b0, b1, b2, b3⟩ := cntOk1_iff.1 hc1
  unfold instsB at hib
  rw [hmd] at hib
  obtain ⟨_, _, _, _, _, _, _, _, hae, hSg, hAs, hIn, hMe, _⟩ := mod_open hRm
  simp only [Value.agg.injEq, Array.mk.injEq, List.cons.injEq, Value.slice.injEq, true_and, and_true] at hae
  obtain ⟨⟨rfl, rfl⟩, ⟨rfl, rfl⟩, ⟨rfl, rfl⟩, rfl, rfl⟩ := hae
  have Hx0 := Lib.hid hx
  have Hmd := Lib.hid hmd
  have Hib := Lib.hid hib
  obtain ⟨ns, hns⟩ : ∃ ns, m.1.length = ns := ⟨_, rfl⟩
  obtain ⟨na, hna⟩ : ∃ na, m.2.1.length = na := ⟨_, rfl⟩
  obtain ⟨ni, hni⟩ : ∃ ni, m.2.2.1.length = ni := ⟨_, rfl⟩
  obtain ⟨nm, hnm⟩ : ∃ nm, m.2.2.2.length = nm := ⟨_, rfl⟩
  rw [hns] at b0 hSg
  rw [hna] at b1 hAs
  rw [hni] at b2 hIn
  rw [hnm] at b3 hMe
  have Hn := Lib.hid (And.intro hns (And.intro hna (And.intro hni hnm)))
  have HAs := Lib.hid hAs
  have HIn := Lib.hid hIn
  have HMe := Lib.hid hMe
  have Hdc := Lib.hid (show ∀ sn : Nat, sn < ns → dcB d (kn : Int) (sn : Int) = ((drvN d m sn : Nat) : Int) from fun sn hsn => by
   unfold dcB
   rw [hL, hmd, hns, show inR (sn : Int) 0 ((ns : Int) - 1) = true from inR_iff.2 (by omega)]
   simp)
  have Hdn := Lib.hid (show inR s 0 ((ns : Int) - 1) = false → dcB d (kn : Int) s = -1 from fun hn => dcB_no (.inr (by rw [hmd, hns]; exact hn)))
  clear hL h1 h2 hx hRm hml hr hcb hc1 hmd hib hSg hAs hIn hMe hns hna hni hnm
  go_enter Tryd.func63, Tryd.ntmps63
  go_wp2_with fail
  refine (s_l04Counts (kn : Int) HDk.out hS1).mono ?_
  rintro e w1 ⟨rfl, hb1⟩
  rw [HL.out]
  have Hb1 := Lib.hid (HB.out.trans (hb1.mono (by simp)))
  have z1 := hb1.size
  simp at z1
  have HD1 := Lib.hid (HD.out.below hb1 HD.out.lt)
  have yd := blkS1 HD1.out
  obtain ⟨adx, m9, B0, d0, B1, d1, B2, d2, B3, d3, hAe, _, hx9, hR9, hml9, e0, e1, e2, e3⟩ := mod_row (HR.out.under hS Hb1.out) hkn
  obtain rfl : ad = adx := by injection hAe
  obtain rfl : m = m9 := by have h1 := Hx0.out; rw [hx9] at h1; injection h1 with h1; exact h1.symm
  obtain ⟨_, _, _, _, _, _, _, _, hae9, hSg9, hAs9, hIn9, hMe9, _⟩ := mod_open hR9
  simp only [Value.agg.injEq, Array.mk.injEq, List.cons.injEq, Value.slice.injEq, true_and, and_true] at hae9
  obtain ⟨⟨rfl, rfl⟩, ⟨rfl, rfl⟩, ⟨rfl, rfl⟩, rfl, rfl⟩ := hae9
  rw [Hn.out.1] at e0 hSg9
  rw [Hn.out.2.1] at e1 hAs9
  rw [Hn.out.2.2.1] at e2 hIn9
  rw [Hn.out.2.2.2] at e3 hMe9
  have HAs1 := Lib.hid hAs9
  have HIn1 := Lib.hid hIn9
  have HMe1 := Lib.hid hMe9
  clear hb1 hx9 hR9 hml9 hAe hSg9 hAs9 hIn9 hMe9
  by_cases hs0 : 0 ≤ s
  ·obtain ⟨sn, rfl⟩ := Int.eq_ofNat_of_zero_le hs0
   by_cases hsn : sn < ns
   ·have g7 : (0 : Int) ≤ (sn : Int) := by omega
    have g8 : (sn : Int) < (ns : Int) := by omega
    have hn1 : ¬ ns ≤ sn := by omega
    obtain ⟨W1, hW1⟩ : ∃ W1, W1 = w1.alloc (.cells #[.slice B0 ns d0, .slice B1 na d1, .slice B2 ni d2, .slice B3 nm d3] 42) := ⟨_, rfl⟩
    go_wp2_with fail
    simp only [show decide ((sn : Int) < 0) = false from decide_eq_false (by omega)]
    have HXm := Lib.hid (show Blk W1 w1.heap.size 42 #[.slice B0 ns d0, .slice B1 na d1, .slice B2 ni d2, .slice B3 nm d3] by rw [hW1]; exact Blk.new _ _ _)
    have HD2 := Lib.hid (show Blk W1 w.heap.size 24 #[.slice (some ad) n c] by rw [hW1]; exact HD1.out.alloc _)
    have HBw := Lib.hid (show Below w.heap.size w W1 by rw [hW1]; exact Hb1.out.alloc (by omega) _)
    have hz : W1.heap.size = w1.heap.size + 1 := by rw [hW1]; simp
    have hkw : ∀ p : Addr, S p.block → W1.cell? p = w1.cell? p := fun p hp => by rw [hW1]; exact World.cell?_alloc_lt _ _ p (by have := hS _ hp; omega)
    have HAs2 := Lib.hid (HAs1.out.keep hkw)
    have HIn2 := Lib.hid (HIn1.out.keep hkw)
    have HMe2 := Lib.hid (HMe1.out.keep hkw)
    rw [← hW1]
    clear hW1 yd e0 e1 e2 e3 hkw
    go_loopw [8, 9] (fun nv iv wr => ∃ j : Nat, j ≤ na ∧ iv = .int .i64 j ∧ nv = .int .i64 ((asgN (m.2.1.take j) sn : Nat) : Int) ∧ wr = W1) (fun _ iv _ => na - (intOf iv).toNat)
    case atStart => exact ⟨0, Nat.zero_le _, rfl, rfl, rfl⟩
    case round =>
     obtain ⟨j, hj, rfl, rfl, rfl⟩ := hrel
     obtain ⟨cn, hcn⟩ : ∃ cn, cn = asgN (m.2.1.take j) sn := ⟨_, rfl⟩
     have hcb : cn ≤ 30 := by rw [hcn]; have h1 := asgN_le (m.2.1.take j) sn; rw [List.length_take] at h1; omega
     rw [← hcn]
     have Hcn := Lib.hid hcn
     clear hcn
     obtain ⟨y0, y1, y2, y3⟩ := blkS4 HXm.out
     by_cases hlt : j < na
     ·obtain ⟨ad2, a, os, A1', c1', rfl, hab2, hx, hro, hom, t0, t1⟩ := asg_row HAs2.out hlt
      have g1 : (0 : Int) ≤ (j : Int) := by omega
      have g2 : (j : Int) < (na : Int) := by omega
      have Hs := Lib.hid (asgN_succ hx sn)
      clear hx hro hom
      by_cases ha : a = (sn : Int)
      ·subst ha
       go_wp2_with fail
       go_roundw
       case rel => exact ⟨j + 1, by omega, by go_num, by rw [Hs.out, ← Hcn.out, if_pos rfl]; go_num, trivial⟩
       case measure => simp [intOf]; omega
      ·have qa : (a == (sn : Int)) = false := by simpa using ha
       have Ha := Lib.hid ha
       clear ha
       go_wp2_with fail
       go_roundw
       case rel => exact ⟨j + 1, by omega, by go_num, by rw [Hs.out, ← Hcn.out, if_neg Ha.out]; go_num, trivial⟩
       case measure => simp [intOf]; omega
     ·have hge : (na : Int) ≤ (j : Int) := by omega
      have hjn : j = na := by omega
      have HcA := Lib.hid (show cn = asgN m.2.1 sn by rw [Hcn.out, List.take_of_length_le (by have := Hn.out.2.1; omega)])
      clear hjn
      go_wp2_with fail
      go_loopw [8, 10] (fun nv iv wz => ∃ j : Nat, j ≤ nm ∧ iv = .int .i64 j ∧ nv = .int .i64 ((cn + memN (m.2.2.2.take j) sn : Nat) : Int) ∧ wz = wr) (fun _ iv _ => nm - (intOf iv).toNat)
      case atStart => exact ⟨0, Nat.zero_le _, rfl, by simp [memN], rfl⟩
      case round =>
       obtain ⟨j2, hj2, rfl, rfl, rfl⟩ := hrel
       obtain ⟨ct, hct⟩ : ∃ ct, ct = cn + memN (m.2.2.2.take j2) sn := ⟨_, rfl⟩
       have hctb : ct ≤ 40 := by rw [hct]; have h1 := memN_le (m.2.2.2.take j2) sn; rw [List.length_take] at h1; omega
       rw [← hct]
       have Hct := Lib.hid hct
       clear hct
       by_cases hlt2 : j2 < nm
       ·obtain ⟨ad2, m0, m1, m2, m3, rfl, hab2, hx, t0, t1, t2, t3⟩ := fMemS_row HMe2.out hlt2
        have g1 : (0 : Int) ≤ (j2 : Int) := by omega
        have g2 : (j2 : Int) < (nm : Int) := by omega
        have Hs := Lib.hid (memN_succ hx sn)
        clear hx
        by_cases ha : m3 = (sn : Int)
        ·subst ha
         go_wp2_with fail
         go_roundw
         case rel => exact ⟨j2 + 1, by omega, by go_num, by rw [Hs.out, ← Nat.add_assoc, ← Hct.out, if_pos rfl]; go_num, trivial⟩
         case measure => simp [intOf]; omega
        ·have qa : (m3 == (sn : Int)) = false := by simpa using ha
         have Ha := Lib.hid ha
         clear ha
         go_wp2_with fail
         go_roundw
         case rel => exact ⟨j2 + 1, by omega, by go_num, by rw [Hs.out, ← Nat.add_assoc, ← Hct.out, if_neg Ha.out]; go_num, trivial⟩
         case measure => simp [intOf]; omega
       ·have hge2 : (nm : Int) ≤ (j2 : Int) := by omega
        have hjn2 : j2 = nm := by omega
        have HcM := Lib.hid (show ct = asgN m.2.1 sn + memN m.2.2.2 sn by rw [Hct.out, HcA.out, List.take_of_length_le (by have := Hn.out.2.2.2; omega)])
        clear hjn2
        go_wp2_with fail
        obtain ⟨W2, rfl⟩ : ∃ W2, W2 = wr := ⟨wr, rfl⟩
        go_loopw [8, 11, 12, 13, 14] (fun nv iv _ _ _ wz => ∃ j : Nat, j ≤ ni ∧ iv = .int .i64 j ∧ nv = .int .i64 ((ct + insN d (m.2.2.1.take j) sn : Nat) : Int) ∧ Below W2.heap.size W2 wz) (fun _ iv _ _ _ _ => ni - (intOf iv).toNat)
        case atStart => exact ⟨0, Nat.zero_le _, rfl, by simp [insN], Below.refl _ _⟩
        case round =>
         clear y0 y1 y2 y3
         obtain ⟨j3, hj3, rfl, rfl, hb3⟩ := hrel
         obtain ⟨cu, hcu⟩ : ∃ cu, cu = ct + insN d (m.2.2.1.take j3) sn := ⟨_, rfl⟩
         have hcub : cu ≤ 200 := by rw [hcu]; have h1 := insN_le d (m.2.2.1.take j3) sn; rw [List.length_take] at h1; omega
         rw [← hcu]
         have Hcu := Lib.hid hcu
         have Hb3 := Lib.hid hb3
         have z3 := hb3.size
         have HD3 := Lib.hid (HD2.out.below hb3 HD2.out.lt)
         have HXm3 := Lib.hid (HXm.out.below hb3 HXm.out.lt)
         have HBw3 := Lib.hid (HBw.out.trans (hb3.mono (by omega)))
         clear hcu
         obtain ⟨y0, y1, y2, y3⟩ := blkS4 HXm3.out
         by_cases hlt3 : j3 < ni
         ·obtain ⟨ad2, a, pr, ps, A2', c2', rfl, hab2, hx, hrp, hpm, f0, f1, f2⟩ := ins_row (HIn2.out.under (B := W2.heap.size) (fun b hb => by have := hS b hb; omega) hb3) hlt3
          have hab3 := hS _ hab2
          have g1 : (0 : Int) ≤ (j3 : Int) := by omega
          have g2 : (j3 : Int) < (ni : Int) := by omega
          unfold maxLen at hpm
          have Hs := Lib.hid (insN_succ (d := d) hx sn)
          have hib3 : insB d kn (a, pr, ps) = true := List.all_eq_true.1 Hib.out _ (List.mem_of_getElem? hx)
          simp only [insB, Bool.and_eq_true, decide_eq_true_eq] at hib3
          obtain ⟨hia, hipl⟩ := hib3
          have hq1 := (inR_iff.1 hia).1
          have hq2 := (inR_iff.1 hia).2
          obtain ⟨p, rfl⟩ := Int.eq_ofNat_of_zero_le hq1
          have hpn : p < n := by omega
          have g3 : (p : Int) < (n : Int) := by omega
          have g4 : (0 : Int) ≤ (p : Int) := by omega
          have Hrp := Lib.hid hrp
          obtain ⟨ad3, m', D0, u0, D1, u1, D2, u2, D3, u3, hAe, hab4, hx', hRm', hml', r0, r1, r2, r3⟩ := mod_row ((HR.out.under hS HBw3.out)) hpn
          obtain rfl : ad = ad3 := by injection hAe
          have hmd' := md_get hx'
          rw [hmd'] at hipl
          have HIN := Lib.hid (show instN d ((p : Int), pr, ps) sn = portN m'.1 ((portsM m').zip ps) sn by simp only [instN, hmd'])
          obtain ⟨_, _, _, _, _, _, _, _, hae', hSg', _⟩ := mod_open hRm'
          simp only [Value.agg.injEq, Array.mk.injEq, List.cons.injEq, Value.slice.injEq, true_and, and_true] at hae'
          obtain ⟨⟨rfl, rfl⟩, -, -, -⟩ := hae'
          have HSg' := Lib.hid hSg'
          have HRm' := Lib.hid hRm'
          obtain ⟨P, hP⟩ : ∃ P, P = portsM m' := ⟨_, rfl⟩
          have hPl : P.length ≤ 30 := by rw [hP]; exact portsL_len _
          rw [← hP] at hipl
          have HP := Lib.hid hP
          have Hipl := Lib.hid hipl
          clear hx hrp hia hipl hAe hx' hRm' hml' hmd' hP hq1 hq2 hSg' hb3 y0 y1 y3
          have hadb : ad.block < wr.heap.size := by omega
          have had2b : ad2.block < wr.heap.size := by omega
          go_wp2_with fail
          refine wp_region_lexC (by kernel_rfl) (by kernel_rfl) (fun x => Below wr.heap.size wr x) ((Below.refl _ _).drew) (fun lexNE => ?_)
          have cD0 := bwS1 HD3.out HD3.out.lt
          obtain ⟨cM0, cM1, cM2, cM3⟩ := bwS4 HXm3.out HXm3.out.lt
          have cf0 := wcell f0 (by rw [block_of_add]; exact had2b)
          have cf1 := wcell f1 (by rw [nxt_block]; exact had2b)
          have cf2 := wcell f2 (by rw [nxt_block]; exact had2b)
          have cr0 := wcell r0 (by rw [block_of_add]; exact hadb)
          have cr1 := wcell r1 (by rw [nxt_block]; exact hadb)
          have cr2 := wcell r2 (by rw [nxt_block]; exact hadb)
          have cr3 := wcell r3 (by rw [nxt_block]; exact hadb)
          (repeat (first | (refine lex_r fun K hK => ?_; go_big_quiet_op; refine hK _ ?_; clear hK K) | (refine lex_k fun K hK => ?_; go_simp; refine hK _ ?_; clear hK K)))
          (refine lex_e fun K hK => ?_; go_big_op)
          refine hK _ _ (Cls.mk' bel_) ?_
          clear hK K
          (repeat (first | (refine lex_r fun K hK => ?_; go_big_quiet_op; refine hK _ ?_; clear hK K) | (refine lex_k fun K hK => ?_; go_simp; refine hK _ ?_; clear hK K)))
          (refine lex_e fun K hK => ?_; go_big_op)
          refine hK _ _ (Cls.mk' bel_) ?_
          clear hK K
          (repeat (first | (refine lex_r fun K hK => ?_; go_big_quiet_op; refine hK _ ?_; clear hK K) | (refine lex_k fun K hK => ?_; go_simp; refine hK _ ?_; clear hK K)))
          (refine lex_nil ?_)
          clear lexNE cD0 cM0 cM1 cM2 cM3 cf0 cf1 cf2 cr0 cr1 cr2 cr3
          go_wp2_with fail
          refine (s_PortsOf (RModule.keep (w' := (wr.alloc (.cells #[.slice D0 m'.1.length u0, .slice D1 m'.2.1.length u1, .slice D2 m'.2.2.1.length u2, .slice D3 m'.2.2.2.length u3] 42)).drew) HRm'.out (fun q hq => World.cell?_alloc_lt _ _ q (by have := hS _ hq; omega))) (fun b hb => by have := hS b hb; (try simp) <;> omega)).mono ?_
          rintro e W5 ⟨v', rfl, hq8, hb8⟩
          rw [← HP.out] at hq8
          obtain ⟨A8, c8, rfl, hP8, _⟩ := sl_form hq8.rep (List.length_map _)
          have hb9 : Below (wr.alloc (.cells #[.slice D0 m'.1.length u0, .slice D1 m'.2.1.length u1, .slice D2 m'.2.2.1.length u2, .slice D3 m'.2.2.2.length u3] 42)).heap.size (wr.alloc (.cells #[.slice D0 m'.1.length u0, .slice D1 m'.2.1.length u1, .slice D2 m'.2.2.1.length u2, .slice D3 m'.2.2.2.length u3] 42)) W5 := (Below.refl _ _).drew.trans hb8
          have z5 : wr.heap.size + 1 ≤ W5.heap.size := by have h1 := hb9.size; simpa using h1
          have HP8 := Lib.hid (hP8.mono (S' := fun b => b < W5.heap.size) (fun b hb => hb.2))
          have HD5 := Lib.hid ((HD3.out.alloc (.cells #[.slice D0 m'.1.length u0, .slice D1 m'.2.1.length u1, .slice D2 m'.2.2.1.length u2, .slice D3 m'.2.2.2.length u3] 42)).below hb9 (by simp; omega))
          have HXm5 := Lib.hid ((HXm3.out.alloc (.cells #[.slice D0 m'.1.length u0, .slice D1 m'.2.1.length u1, .slice D2 m'.2.2.1.length u2, .slice D3 m'.2.2.2.length u3] 42)).below hb9 (by simp; omega))
          have HXn5 := Lib.hid ((Blk.new wr 42 #[.slice D0 m'.1.length u0, .slice D1 m'.2.1.length u1, .slice D2 m'.2.2.1.length u2, .slice D3 m'.2.2.2.length u3]).below hb9 (by simp))
          have HB5 := Lib.hid ((Hb3.out.alloc (by omega) (.cells #[.slice D0 m'.1.length u0, .slice D1 m'.2.1.length u1, .slice D2 m'.2.2.1.length u2, .slice D3 m'.2.2.2.length u3] 42)).trans (hb9.mono (by simp; omega)))
          have hkq : ∀ q : Addr, q.block < w.heap.size → W5.cell? q = wr.cell? q := fun q hq => (hb9.cell (by simp; omega)).trans (World.cell?_alloc_lt _ _ q (by omega))
          have HSg5 := Lib.hid (Rep.keep (w' := W5) HSg'.out (fun q hq => hkq q (hS _ hq)))
          have Hrp5 := Lib.hid (Rep.keep (w' := W5) Hrp.out (fun q hq => hkq q (hS _ hq)))
          have Hf2 := Lib.hid ((hkq (nxt (ad2.add (j3 * 3)) 2) (by rw [nxt_block]; exact hab3)).trans f2)
          clear hq8 hP8 hb8 hb9 hkq f0 f1 f2 r0 r1 r2 r3 y2
          obtain ⟨np, hnp⟩ : ∃ np, P.length = np := ⟨_, rfl⟩
          rw [hnp] at HP8 hPl ⊢
          have Hnp := Lib.hid hnp
          clear hnp
          go_wp2_with fail
          go_loopw [8, 14] (fun nv iv wz => ∃ q : Nat, q ≤ np ∧ iv = .int .i64 q ∧ nv = .int .i64 ((cu + portN m'.1 ((P.zip ps).take q) sn : Nat) : Int) ∧ Below W5.heap.size W5 wz) (fun _ iv _ => np - (intOf iv).toNat)
          case atStart => exact ⟨0, Nat.zero_le _, rfl, by simp [portN], Below.refl _ _⟩
          case round =>
           obtain ⟨q, hq, rfl, rfl, hb4⟩ := hrel
           obtain ⟨cv, hcv⟩ : ∃ cv, cv = cu + portN m'.1 ((P.zip ps).take q) sn := ⟨_, rfl⟩
           have hcvb : cv ≤ 400 := by rw [hcv]; have h1 := portN_le m'.1 ((P.zip ps).take q) sn; rw [List.length_take] at h1; omega
           rw [← hcv]
           have Hcv := Lib.hid hcv
           have Hb4 := Lib.hid hb4
           have z6 := hb4.size
           have hSW : ∀ b, S b → b < W5.heap.size := fun b hb => by have := hS b hb; omega
           clear hcv hb4
           by_cases hlt4 : q < np
           ·obtain ⟨ad8, y, rfl, hab8, hy, cP⟩ := fIntS_row (Rep.under HP8.out (fun _ h => h) Hb4.out) hlt4
            obtain ⟨ix, sy, rfl, hsy⟩ := ports_mem (m := m') (by rw [← HP.out]; exact hy)
            have hil := (List.getElem?_eq_some_iff.1 hsy).1
            obtain ⟨ad9, x0, x1, x2, rfl, hab9, hx9, s0, s1, s2⟩ := fSignalS_row (HSg5.out.under hSW Hb4.out) hil
            obtain ⟨ad7, zz, rfl, hab7, hz7, cz⟩ := fIntS_row (Hrp5.out.under hSW Hb4.out) (show q < ps.length by rw [Hipl.out, Hnp.out]; exact hlt4)
            have hzip : (P.zip ps)[q]? = some ((ix : Int), zz) := List.getElem?_zip_eq_some.2 ⟨hy, hz7⟩
            have Hsp := Lib.hid (portN_succ (sg := m'.1) hzip sn)
            have Hka := Lib.hid (show kindAt m'.1 (ix : Int) = x0 by simp [kindAt, List.getD, hx9])
            have g27 : (0 : Int) ≤ (q : Int) := by omega
            have g28 : (q : Int) < (np : Int) := by omega
            have g29 : (0 : Int) ≤ (ix : Int) := by omega
            have g20 : (ix : Int) < (m'.1.length : Int) := by omega
            have g21 : (q : Int) < (ps.length : Int) := by have := Hipl.out; have := Hnp.out; omega
            have f2 := (Hb4.out.cell (p := nxt (ad2.add (j3 * 3)) 2) (by rw [nxt_block]; omega)).trans Hf2.out
            obtain ⟨ym0, ym1, ym2, ym3⟩ := blkS4 (HXm5.out.below Hb4.out HXm5.out.lt)
            obtain ⟨yn0, yn1, yn2, yn3⟩ := blkS4 (HXn5.out.below Hb4.out HXn5.out.lt)
            clear hy hsy hx9 hz7 hzip
            by_cases hk1 : x0 = 1
            ·subst hk1
             by_cases ha : zz = (sn : Int)
             ·subst ha
              go_wp2_with fail
              refine wp_region_lex (by kernel_rfl) (by kernel_rfl) (Cls (fun x => x = wr.drew)) (Cls.mk' rfl) ?_
              have lexNE : Nonempty (Wd (fun x => x = wr.drew)) := ⟨⟨_, rfl⟩⟩
              have lexW : ∀ W : Wd (fun x => x = wr.drew), W.val = wr.drew := fun W => W.ok
              (repeat (first | (refine lex_r fun K hK => ?_; go_big_quiet_op; refine hK _ ?_; clear hK K) | (refine lex_k fun K hK => ?_; go_simp; refine hK _ ?_; clear hK K)))
              (refine lex_nil ?_)
              clear lexNE lexW
              go_wp2_with fail
              go_roundw
              case rel => exact ⟨q + 1, by omega, by go_num, by rw [Hsp.out, Hka.out, if_pos (by simp), ← Nat.add_assoc, ← Hcv.out]; go_num, Hb4.out.drew⟩
              case measure => simp [intOf]; omega
             ·have qa : (zz == (sn : Int)) = false := by simpa using ha
              have Ha := Lib.hid ha
              clear ha
              go_wp2_with fail
              refine wp_region_lex (by kernel_rfl) (by kernel_rfl) (Cls (fun x => x = wr.drew)) (Cls.mk' rfl) ?_
              have lexNE : Nonempty (Wd (fun x => x = wr.drew)) := ⟨⟨_, rfl⟩⟩
              have lexW : ∀ W : Wd (fun x => x = wr.drew), W.val = wr.drew := fun W => W.ok
              (repeat (first | (refine lex_r fun K hK => ?_; go_big_quiet_op; refine hK _ ?_; clear hK K) | (refine lex_k fun K hK => ?_; go_simp; refine hK _ ?_; clear hK K)))
              (refine lex_nil ?_)
              clear lexNE lexW
              go_wp2_with fail
              go_roundw
              case rel => exact ⟨q + 1, by omega, by go_num, by rw [Hsp.out, Hka.out, if_neg (fun hc => Ha.out hc.2), Nat.add_zero, ← Hcv.out], Hb4.out.drew⟩
              case measure => simp [intOf]; omega
            ·have qz : (x0 == 1) = false := by simpa using hk1
             have Hk1 := Lib.hid hk1
             clear hk1
             go_wp2_with fail
             refine wp_region_lex (by kernel_rfl) (by kernel_rfl) (Cls (fun x => x = wr.drew)) (Cls.mk' rfl) ?_
             have lexNE : Nonempty (Wd (fun x => x = wr.drew)) := ⟨⟨_, rfl⟩⟩
             have lexW : ∀ W : Wd (fun x => x = wr.drew), W.val = wr.drew := fun W => W.ok
             (repeat (first | (refine lex_r fun K hK => ?_; go_big_quiet_op; refine hK _ ?_; clear hK K) | (refine lex_k fun K hK => ?_; go_simp; refine hK _ ?_; clear hK K)))
             (refine lex_nil ?_)
             clear lexNE lexW
             go_wp2_with fail
             go_roundw
             case rel => exact ⟨q + 1, by omega, by go_num, by rw [Hsp.out, Hka.out, if_neg (fun hc => Hk1.out hc.1), Nat.add_zero, ← Hcv.out], Hb4.out.drew⟩
             case measure => simp [intOf]; omega
           ·have hge4 : (np : Int) ≤ (q : Int) := by omega
            have hqn : q = np := by omega
            have Hcw := Lib.hid (show ct + insN d (m.2.2.1.take (j3 + 1)) sn = cv by rw [Hs.out, HIN.out, Hcv.out, ← HP.out, List.take_of_length_le (l := P.zip ps) (by rw [List.length_zip]; have := Hnp.out; omega), ← Nat.add_assoc, ← Hcu.out])
            clear hqn
            go_wp2_with fail
            go_roundw
            case rel => exact ⟨j3 + 1, by omega, by go_num, by rw [Hcw.out], HB5.out.trans (Hb4.out.mono HB5.out.size)⟩
            case measure => simp [intOf]; omega
         ·have hge3 : (ni : Int) ≤ (j3 : Int) := by omega
          have hjn3 : j3 = ni := by omega
          have HcF := Lib.hid (show dcB d (kn : Int) (sn : Int) = (cu : Int) by
           rw [Hdc.out sn hsn, Hcu.out, HcM.out, List.take_of_length_le (by have := Hn.out.2.2.1; omega)]
           rfl)
          clear hjn3
          go_wp2_with fail
          go_ret
          exact ⟨ret_int HcF.out.symm, HBw3.out⟩
   ·have hns2 : ns ≤ sn := by omega
    go_wp2_with fail
    go_ret
    exact ⟨ret_int (Hdn.out (inR_no2 hns2)).symm, Hb1.out⟩
  ·have hs0' : s < 0 := by omega
   go_wp2_with fail
   go_ret
   exact ⟨ret_int (Hdn.out (inR_no1 hs0')).symm, Hb1.out⟩
end Go.Proofs.YthjdigcpgpiiiaaDoor
