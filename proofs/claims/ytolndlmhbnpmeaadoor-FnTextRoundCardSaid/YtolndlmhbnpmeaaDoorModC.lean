/- Contracts: is a module valid: the program's function. -/
import Derived.Test.YtolndlmhbnpmeaaDoorModB
import Derived.Outline
namespace Go.Proofs.YtolndlmhbnpmeaaDoor
open Go.RowKit

def asgB (sg : List TSignal) (a : TAssign) : Bool := inR a.1 0 (sg.length - 1) && (drivenB (kindAt sg a.1) && opsB a.2 sg.length)
def memB (sg : List TSignal) (x : TMem) : Bool := inR x.1 0 (sg.length - 1) && (inR x.2.1 0 (sg.length - 1) && (inR x.2.2.1 0 (sg.length - 1) && drivesB sg x.2.2.2))
def drvB1 (d : TDesign) (m : TModule) (s : Nat) : Bool := !drivenB (kindAt m.1 s) || decide (drvN d m s = 1)
def drvsB (d : TDesign) (m : TModule) : Bool := (List.range m.1.length).all (drvB1 d m)
def modB (d : TDesign) (m : TModule) : Bool := m.1.all sigB && (m.2.1.all (asgB m.1) && (m.2.2.1.all (instB d m) && (m.2.2.2.all (memB m.1) && drvsB d m)))
/-- a valid module -/
def moduleB (d : TDesign) (k : Int) : Bool := l04C d k && modB d (md d k)
theorem ops_len {d : TDesign} {m : TModule} {a : TAssign} {N : Nat} (hz : sDesign d ≤ N) (hm : m ∈ d) (ha : a ∈ m.2.1) : a.2.length ≤ N := by
 have h1 := nuL_el sModule hm
 have h2 := nuL_el sAssign ha
 simp only [sDesign, szL_eq, sModule, sAssign] at hz h1 h2
 omega
theorem range_all {p : Nat → Bool} {n k : Nat} (hk : k < n) (h : p k = false) : (List.range n).all p = false := by
 rw [List.all_eq_false]
 exact ⟨k, List.mem_range.2 hk, by simp [h]⟩
theorem range_succ_all {p : Nat → Bool} {k : Nat} : (List.range (k + 1)).all p = ((List.range k).all p && p k) := by
 rw [List.range_succ, List.all_append]
 simp

set_option maxRecDepth 100000 in
set_option maxHeartbeats 16000000 in
theorem i_ModuleOk {w : World} {S : Nat → Prop} {v : Value} {d : TDesign} (k : Int) (hzd : sDesign d ≤ 1099511627776) (h : RDesign w S v d) (hS : ∀ b, S b → b < w.heap.size) :
  Calls Tryd.prog 36 #[v, .int .i64 k] w fun e w' => e = .returned (.bool (moduleB d k)) ∧ Below w.heap.size w w' := by
 obtain ⟨A, c, rfl, hr, hm⟩ := dsn_open h
 obtain ⟨n, hl⟩ : ∃ n, d.length = n := ⟨_, rfl⟩
 rw [hl] at hr hm h ⊢
 have Hl := Lib.hid hl
 have H := Lib.hid h
 unfold maxLen at hm
 have HD := Lib.hid (Blk.new w 26 #[.slice A n c])
 have HB := Lib.hid ((Below.refl w.heap.size w).alloc (Nat.le_refl _) (.cells #[.slice A n c] 26))
 have HDk := Lib.hid (RDesign.keep (w' := w.alloc (.cells #[.slice A n c] 26)) h (fun p hp => World.cell?_alloc_lt _ _ p (hS _ hp)))
 have hS1 : ∀ b, S b → b < (w.alloc (.cells #[.slice A n c] 26)).heap.size := fun b hb => by have := hS b hb; simp; omega
 clear hl h
 cases hqk : inR k 0 ((n : Int) - 1) with
 | false =>
  have Hqk := Lib.hid hqk
  have Hno := Lib.hid (show l04C d k = false by
   unfold l04C
   rw [decide_eq_false (fun hc => by have h1 : inR k 0 ((n : Int) - 1) = true := inR_iff.2 (by have := Hl.out; omega); rw [hqk] at h1; cases h1)]
   rfl)
  clear hqk
  go_enter Tryd.func36, Tryd.ntmps36
  go_wp2_with fail
  refine (i_inRange k 0 ((n : Int) - 1) _).mono ?_
  rintro e w9 ⟨rfl, rfl⟩
  rw [Hqk.out]
  go_wp2_with fail
  go_ret
  exact ⟨ret_bool (by unfold moduleB; rw [Hno.out]; rfl), HB.out⟩
 | true =>
  obtain ⟨h1, h2⟩ := inR_iff.1 hqk
  obtain ⟨kn, rfl⟩ := Int.eq_ofNat_of_zero_le h1
  have hkn : kn < n := by omega
  have g5 : (0 : Int) ≤ (kn : Int) := by omega
  have g6 : (kn : Int) < (n : Int) := by omega
  have Hqk := Lib.hid hqk
  clear hqk h1 h2
  cases hcb : countsB d with
  | false =>
   have Hcb := Lib.hid hcb
   clear hcb
   go_enter Tryd.func36, Tryd.ntmps36
   go_wp2_with fail
   refine (i_inRange (kn : Int) 0 ((n : Int) - 1) _).mono ?_
   rintro e w9 ⟨rfl, rfl⟩
   rw [Hqk.out]
   go_wp2_with fail
   refine (i_countsOk HDk.out hS1).mono ?_
   rintro e w2 ⟨rfl, hb2⟩
   rw [Hcb.out]
   have Hb2 := Lib.hid (HB.out.trans (hb2.mono (by simp)))
   go_wp2_with fail
   go_ret
   exact ⟨ret_bool (by unfold moduleB; rw [(show l04C d (kn : Int) = false by unfold l04C; rw [Hcb.out]; simp)]; rfl), Hb2.out⟩
  | true =>
   have Hcb := Lib.hid hcb
   clear hcb
   cases hib : instsB d (kn : Int) with
   | false =>
    have Hib := Lib.hid hib
    clear hib
    go_enter Tryd.func36, Tryd.ntmps36
    go_wp2_with fail
    refine (i_inRange (kn : Int) 0 ((n : Int) - 1) _).mono ?_
    rintro e w9 ⟨rfl, rfl⟩
    rw [Hqk.out]
    go_wp2_with fail
    refine (i_countsOk HDk.out hS1).mono ?_
    rintro e w2 ⟨rfl, hb2⟩
    rw [Hcb.out]
    have Hb2 := Lib.hid (HB.out.trans (hb2.mono (by simp)))
    have z2 := hb2.size
    simp at z2
    have yd := blkS1 (HD.out.below hb2 HD.out.lt)
    clear hb2
    go_wp2_with fail
    refine (i_instsOk (k := kn) (RDesign.under H.out hS Hb2.out) (fun b hb => by have := hS b hb; omega) (by have := Hl.out; omega)).mono ?_
    rintro e w3 ⟨rfl, hb3⟩
    rw [Hib.out]
    have Hb3 := Lib.hid (Hb2.out.trans (hb3.mono (by omega)))
    go_wp2_with fail
    go_ret
    exact ⟨ret_bool (by unfold moduleB; rw [(show l04C d (kn : Int) = false by unfold l04C; rw [Hib.out]; simp)]; rfl), Hb3.out⟩
   | true =>
    have Hib := Lib.hid hib
    have HR := Lib.hid hr
    obtain ⟨ad, m, A0, c0, A1, c1, A2, c2, A3, c3, rfl, hab, hx, hRm, hml, -, -, -, -⟩ := mod_row hr hkn
    have hmd := md_get hx
    have Hx0 := Lib.hid hx
    have hab1 := hS _ hab
    have hc1 : cntOk1 m = true := by
     have h1 := Hcb.out
     unfold countsB at h1
     simp only [Bool.and_eq_true] at h1
     exact List.all_eq_true.1 h1.2 m (List.mem_of_getElem? hx)
    obtain ⟨b0, b1, b2, b3⟩ := cntOk1_iff.1 hc1
    have Hmb := Lib.hid (show moduleB d (kn : Int) = modB d m by
     unfold moduleB l04C
     rw [Hcb.out, hib, hmd, decide_eq_true (by have := Hl.out; omega)]
     rfl)
    have HibM := Lib.hid (show m.2.2.1.all (insB d kn) = true by have h1 := hib; unfold instsB at h1; rw [hmd] at h1; exact h1)
    have Hopl := Lib.hid (fun (a : TAssign) (ha : a ∈ m.2.1) => ops_len hzd (List.mem_of_getElem? hx) ha)
    obtain ⟨ns, hns⟩ : ∃ ns, m.1.length = ns := ⟨_, rfl⟩
    obtain ⟨na, hna⟩ : ∃ na, m.2.1.length = na := ⟨_, rfl⟩
    obtain ⟨ni, hni⟩ : ∃ ni, m.2.2.1.length = ni := ⟨_, rfl⟩
    obtain ⟨nm, hnm⟩ : ∃ nm, m.2.2.2.length = nm := ⟨_, rfl⟩
    have Hn := Lib.hid (And.intro hns (And.intro hna (And.intro hni hnm)))
    have HRm := Lib.hid hRm
    obtain ⟨_, _, _, _, _, _, _, _, hae, hSg, hAs, hIn, hMe, -⟩ := mod_open hRm
    simp only [Value.agg.injEq, Array.mk.injEq, List.cons.injEq, Value.slice.injEq, true_and, and_true] at hae
    obtain ⟨⟨rfl, rfl⟩, ⟨rfl, rfl⟩, ⟨rfl, rfl⟩, rfl, rfl⟩ := hae
    rw [hns] at b0 hSg HRm
    rw [hna] at b1 hAs HRm
    rw [hni] at b2 hIn HRm
    rw [hnm] at b3 hMe HRm
    have HSg := Lib.hid hSg
    have HAs := Lib.hid hAs
    have HIn := Lib.hid hIn
    have HMe := Lib.hid hMe
    clear hib hr hx hRm hml hmd hc1 hns hna hni hnm hSg hAs hIn hMe hzd
    go_enter Tryd.func36, Tryd.ntmps36
    go_wp2_with fail
    refine (i_inRange (kn : Int) 0 ((n : Int) - 1) _).mono ?_
    rintro e w9 ⟨rfl, rfl⟩
    rw [Hqk.out]
    go_wp2_with fail
    refine (i_countsOk HDk.out hS1).mono ?_
    rintro e w2 ⟨rfl, hb2⟩
    rw [Hcb.out]
    have Hb2 := Lib.hid (HB.out.trans (hb2.mono (by simp)))
    have z2 := hb2.size
    simp at z2
    have HD2 := Lib.hid (HD.out.below hb2 HD.out.lt)
    have yd := blkS1 HD2.out
    clear hb2
    go_wp2_with fail
    refine (i_instsOk (k := kn) (RDesign.under H.out hS Hb2.out) (fun b hb => by have := hS b hb; omega) (by have := Hl.out; omega)).mono ?_
    rintro e w3 ⟨rfl, hb3⟩
    rw [Hib.out]
    have Hb3 := Lib.hid (Hb2.out.trans (hb3.mono (by omega)))
    have z3 := hb3.size
    have HD3 := Lib.hid (HD2.out.below hb3 HD2.out.lt)
    have yd3 := blkS1 HD3.out
    clear hb3 yd
    obtain ⟨adx, m9, B0, d0, B1, d1, B2, d2, B3, d3, hAe, _, hx9, hR9, _, e0, e1, e2, e3⟩ := mod_row (HR.out.under hS Hb3.out) hkn
    obtain rfl : ad = adx := by injection hAe
    obtain rfl : m = m9 := by have h1 := Hx0.out; rw [hx9] at h1; injection h1 with h1; exact h1.symm
    rw [Hn.out.1] at e0 hR9
    rw [Hn.out.2.1] at e1 hR9
    rw [Hn.out.2.2.1] at e2 hR9
    rw [Hn.out.2.2.2] at e3 hR9
    obtain ⟨_, _, _, _, _, _, _, _, hae, hSg, hAs, hIn, hMe, -⟩ := mod_open hR9
    rw [Hn.out.1] at hae hSg
    rw [Hn.out.2.1] at hae hAs
    rw [Hn.out.2.2.1] at hae hIn
    rw [Hn.out.2.2.2] at hae hMe
    simp only [Value.agg.injEq, Array.mk.injEq, List.cons.injEq, Value.slice.injEq, true_and, and_true] at hae
    obtain ⟨⟨rfl, rfl⟩, ⟨rfl, rfl⟩, ⟨rfl, rfl⟩, rfl, rfl⟩ := hae
    obtain ⟨W1, hW1⟩ : ∃ W1, W1 = w3.alloc (.cells #[.slice B0 ns d0, .slice B1 na d1, .slice B2 ni d2, .slice B3 nm d3] 50) := ⟨_, rfl⟩
    have hkw : ∀ p : Addr, S p.block → W1.cell? p = w3.cell? p := fun p hp => by rw [hW1]; exact World.cell?_alloc_lt _ _ p (by have := hS _ hp; omega)
    have HSg1 := Lib.hid (hSg.keep hkw)
    have HAs1 := Lib.hid (hAs.keep hkw)
    have HIn1 := Lib.hid (hIn.keep hkw)
    have HMe1 := Lib.hid (hMe.keep hkw)
    have HRm1 := Lib.hid (hR9.keep hkw)
    have HXm := Lib.hid (show Blk W1 w3.heap.size 50 #[.slice B0 ns d0, .slice B1 na d1, .slice B2 ni d2, .slice B3 nm d3] by rw [hW1]; exact Blk.new _ _ _)
    have HXd := Lib.hid (show Blk W1 w.heap.size 26 #[.slice (some ad) n c] by rw [hW1]; exact HD3.out.alloc _)
    have HB1 := Lib.hid (show Below w.heap.size w W1 by rw [hW1]; exact Hb3.out.alloc (by omega) _)
    have hz1 : W1.heap.size = w3.heap.size + 1 := by rw [hW1]; simp
    have hSW : ∀ b, S b → b < W1.heap.size := fun b hb => by have := hS b hb; omega
    clear hkw hSg hAs hIn hMe hR9 hx9 hAe
    go_wp2_with fail
    rw [← hW1]
    clear hW1 yd3 e0 e1 e2 e3
    go_loopw [8, 46] (fun _ iv wr => ∃ j : Nat, j ≤ ns ∧ iv = .int .i64 j ∧ Hid ((m.1.take j).all sigB = true) ∧ Below W1.heap.size W1 wr) (fun _ iv _ => ns - (intOf iv).toNat)
    case atStart => exact ⟨0, Nat.zero_le _, rfl, Lib.hid rfl, Below.refl _ _⟩
    case round =>
     obtain ⟨j, hj, rfl, Hok, hb⟩ := hrel
     have Hb := Lib.hid hb
     have hsz := hb.size
     have HBw := Lib.hid (HB1.out.trans (hb.mono (by omega)))
     have HXd6 := Lib.hid (HXd.out.below hb HXd.out.lt)
     have HXm6 := Lib.hid (HXm.out.below hb HXm.out.lt)
     obtain ⟨y0, y1, y2, y3⟩ := blkS4 HXm6.out
     have g1 : (0 : Int) ≤ (j : Int) := by omega
     clear hb
     by_cases hlt : j < ns
     ·obtain ⟨ad1, x0, x1, x2, rfl, hab1, hx, s0, s1, s2⟩ := fSignalS_row (HSg1.out.under hSW Hb.out) hlt
      have g2 : (j : Int) < (ns : Int) := by omega
      have Hx := Lib.hid hx
      have Hs := Lib.hid (all_take (p := sigB) hx)
      clear hx
      go_wp2_with fail
      refine (i_signalOk x0 x1 x2 _).mono ?_
      rintro e w5 ⟨rfl, hb5⟩
      have Hb5 := Lib.hid ((Hb.out.alloc hsz (.cells #[.int .i64 x0, .int .i64 x1, .int .i64 x2] 66)).trans (hb5.mono (by simp; omega)))
      clear hb5 y0 y1 y2 y3
      cases hq : sigB (x0, x1, x2) with
      | false =>
       have Hq := Lib.hid hq
       clear hq
       go_wp2_with fail
       go_ret
       exact ⟨ret_bool (by rw [Hmb.out]; unfold modB; rw [all_not Hx.out Hq.out]; rfl), HB1.out.trans (Hb5.out.mono (by omega))⟩
      | true =>
       have Hq := Lib.hid hq
       clear hq
       go_wp2_with fail
       go_roundw
       case rel => exact ⟨j + 1, by omega, by go_num, Lib.hid (by rw [Hs.out, Hok.out, Hq.out]; rfl), Hb5.out⟩
       case measure => simp [intOf]; omega
     ·have hge : (ns : Int) ≤ (j : Int) := by omega
      have hjn : j = ns := by omega
      have HA1 := Lib.hid (show m.1.all sigB = true by have h1 := Hok.out; rw [List.take_of_length_le (by have := Hn.out.1; omega)] at h1; exact h1)
      clear hjn
      go_wp2_with fail
      clear y0 y1 y2 y3 hsz
      go_loopw [10, 57] (fun _ iv wr => ∃ j : Nat, j ≤ na ∧ iv = .int .i64 j ∧ Hid ((m.2.1.take j).all (asgB m.1) = true) ∧ Below W1.heap.size W1 wr) (fun _ iv _ => na - (intOf iv).toNat)
      case atStart => exact ⟨0, Nat.zero_le _, rfl, Lib.hid rfl, Hb.out⟩
      case round =>
       clear Hok Hb HBw HXd6 HXm6 g1 hge hlt
       obtain ⟨j, hj, rfl, Hok, hb⟩ := hrel
       have Hb := Lib.hid hb
       have hsz := hb.size
       have HBw := Lib.hid (HB1.out.trans (hb.mono (by omega)))
       have HXd6 := Lib.hid (HXd.out.below hb HXd.out.lt)
       have HXm6 := Lib.hid (HXm.out.below hb HXm.out.lt)
       obtain ⟨y0, y1, y2, y3⟩ := blkS4 HXm6.out
       have g1 : (0 : Int) ≤ (j : Int) := by omega
       clear hb
       by_cases hlt : j < na
       ·obtain ⟨ad1, a, os, A1', c1', rfl, hab1, hx, hro, hom, t0, t1⟩ := asg_row (HAs1.out.under hSW Hb.out) hlt
        have g2 : (j : Int) < (na : Int) := by omega
        have Hx := Lib.hid hx
        have Hs := Lib.hid (all_take (p := asgB m.1) hx)
        have hol := Hopl.out _ (List.mem_of_getElem? hx)
        simp only at hol
        have Hro := Lib.hid hro
        have Hb5 := Lib.hid (Hb.out.alloc hsz (.cells #[.int .i64 a, .slice A1' os.length c1'] 69))
        clear hx hro hom
        have Has := Lib.hid (show asgB m.1 (a, os) = (inR a 0 ((ns : Int) - 1) && (drivenB (kindAt m.1 a) && opsB os ns)) by simp only [asgB]; rw [Hn.out.1])
        cases hqa : inR a 0 ((ns : Int) - 1) with
        | false =>
         have Hqa := Lib.hid hqa
         clear hqa
         go_wp2_with fail
         refine (i_inRange a 0 ((ns : Int) - 1) _).mono ?_
         rintro e w9 ⟨rfl, rfl⟩
         rw [Hqa.out]
         go_wp2_with fail
         go_ret
         exact ⟨ret_bool (by rw [Hmb.out]; unfold modB; rw [all_not Hx.out (by rw [Has.out, Hqa.out]; rfl)]; simp), HB1.out.trans (Hb5.out.mono (by omega))⟩
        | true =>
         obtain ⟨a1, a2⟩ := inR_iff.1 hqa
         obtain ⟨an, rfl⟩ := Int.eq_ofNat_of_zero_le a1
         have g3 : (0 : Int) ≤ (an : Int) := by omega
         have g4 : (an : Int) < (ns : Int) := by omega
         have Hqa := Lib.hid hqa
         clear hqa a1 a2
         obtain ⟨ad7, x0, x1, x2, rfl, hab7, hx7, s0, s1, s2⟩ := fSignalS_row (HSg1.out.under hSW Hb.out) (k := an) (by omega)
         have Hka := Lib.hid (show kindAt m.1 (an : Int) = x0 by simp [kindAt, List.getD, hx7])
         have f0 := (World.cell?_alloc_lt wr (.cells #[.int .i64 an, .slice A1' os.length c1'] 69) (ad7.add (an * 3)) (by rw [block_of_add]; have := hS _ hab7; omega)).trans s0
         obtain ⟨p0, p1, p2, p3⟩ := blkS4 (HXm6.out.alloc (.cells #[.int .i64 an, .slice A1' os.length c1'] 69))
         clear hx7 s0 s1 s2
         cases hqd : drivenB x0 with
         | false =>
          have Hqd := Lib.hid hqd
          clear hqd
          go_wp2_with fail
          refine (i_inRange (an : Int) 0 ((ns : Int) - 1) _).mono ?_
          rintro e w9 ⟨rfl, rfl⟩
          rw [Hqa.out]
          go_wp2_with fail
          refine (i_isDriven x0 _).mono ?_
          rintro e w9 ⟨rfl, rfl⟩
          rw [Hqd.out]
          go_wp2_with fail
          go_ret
          exact ⟨ret_bool (by rw [Hmb.out]; unfold modB; rw [all_not Hx.out (by rw [Has.out, Hqa.out, Hka.out, Hqd.out]; rfl)]; simp), HB1.out.trans (Hb5.out.mono (by omega))⟩
         | true =>
          have Hqd := Lib.hid hqd
          clear hqd
          go_wp2_with fail
          refine (i_inRange (an : Int) 0 ((ns : Int) - 1) _).mono ?_
          rintro e w9 ⟨rfl, rfl⟩
          rw [Hqa.out]
          go_wp2_with fail
          refine (i_isDriven x0 _).mono ?_
          rintro e w9 ⟨rfl, rfl⟩
          rw [Hqd.out]
          go_wp2_with fail
          refine (i_OpsOk (B := w.heap.size) (ns : Int) ((Rep.to_reads eOp_len (by decide) (show Rep _ S _ (frecs eOp os) from Hro.out) hS).alloc (by omega) _) (by simp; omega) (by omega)).mono ?_
          rintro e w6 ⟨rfl, hb6⟩
          have Hb6 := Lib.hid (Hb5.out.trans (hb6.mono (by simp; omega)))
          clear hb6 f0 y0 y1 y2 y3 t0 t1
          cases hqo : opsB os (ns : Int) with
          | false =>
           have Hqo := Lib.hid hqo
           clear hqo
           go_wp2_with fail
           go_ret
           exact ⟨ret_bool (by rw [Hmb.out]; unfold modB; rw [all_not Hx.out (by rw [Has.out, Hqa.out, Hka.out, Hqd.out, Hqo.out]; rfl)]; simp), HB1.out.trans (Hb6.out.mono (by omega))⟩
          | true =>
           have Hqo := Lib.hid hqo
           clear hqo
           go_wp2_with fail
           go_roundw
           case rel => exact ⟨j + 1, by omega, by go_num, Lib.hid (by rw [Hs.out, Hok.out, Has.out, Hqa.out, Hka.out, Hqd.out, Hqo.out]; rfl), Hb6.out⟩
           case measure => simp [intOf]; omega
       ·have hge : (na : Int) ≤ (j : Int) := by omega
        have hjn : j = na := by omega
        have HA2 := Lib.hid (show m.2.1.all (asgB m.1) = true by have h1 := Hok.out; rw [List.take_of_length_le (by have := Hn.out.2.1; omega)] at h1; exact h1)
        clear hjn
        go_wp2_with fail
        clear y0 y1 y2 y3 hsz
        go_loopw [12, 89] (fun _ iv wr => ∃ j : Nat, j ≤ ni ∧ iv = .int .i64 j ∧ Hid ((m.2.2.1.take j).all (instB d m) = true) ∧ Below W1.heap.size W1 wr) (fun _ iv _ => ni - (intOf iv).toNat)
        case atStart => exact ⟨0, Nat.zero_le _, rfl, Lib.hid rfl, Hb.out⟩
        case round =>
         clear Hok Hb HBw HXd6 HXm6 g1 hge hlt
         obtain ⟨j, hj, rfl, Hok, hb⟩ := hrel
         have Hb := Lib.hid hb
         have hsz := hb.size
         have HBw := Lib.hid (HB1.out.trans (hb.mono (by omega)))
         have HXd6 := Lib.hid (HXd.out.below hb HXd.out.lt)
         have HXm6 := Lib.hid (HXm.out.below hb HXm.out.lt)
         obtain ⟨y0, y1, y2, y3⟩ := blkS4 HXm6.out
         have g1 : (0 : Int) ≤ (j : Int) := by omega
         clear hb
         by_cases hlt : j < ni
         ·have yd := blkS1 HXd6.out
          obtain ⟨ad2, a, pr, ps, A2', c2', rfl, hab2, hx, hrp, hpm, t0, t1, t2⟩ := ins_row (HIn1.out.under hSW Hb.out) hlt
          have g2 : (j : Int) < (ni : Int) := by omega
          have hib3 : insB d kn (a, pr, ps) = true := List.all_eq_true.1 HibM.out _ (List.mem_of_getElem? hx)
          simp only [insB, Bool.and_eq_true, decide_eq_true_eq] at hib3
          obtain ⟨hia, hipl⟩ := hib3
          have hq1 := (inR_iff.1 hia).1
          have hq2 := (inR_iff.1 hia).2
          obtain ⟨p, rfl⟩ := Int.eq_ofNat_of_zero_le hq1
          obtain ⟨m', hm'⟩ : ∃ m', d[p]? = some m' := ⟨_, List.getElem?_eq_getElem (by have := Hl.out; omega)⟩
          rw [md_get hm'] at hipl
          have Hx := Lib.hid hx
          have Hs := Lib.hid (all_take (p := instB d m) hx)
          have Hb5 := Lib.hid (Hb.out.alloc hsz (.cells #[.int .i64 p, .int .i64 pr, .slice A2' ps.length c2'] 75))
          have hkk : ∀ q : Addr, S q.block → (wr.alloc (.cells #[.int .i64 p, .int .i64 pr, .slice A2' ps.length c2'] 75)).cell? q = wr.cell? q := fun q hq => World.cell?_alloc_lt _ _ q (by have := hS _ hq; omega)
          have HDD := Lib.hid (RDesign.keep (RDesign.under H.out hS HBw.out) hkk)
          have HMM := Lib.hid (RModule.keep (RModule.under HRm1.out hSW Hb.out) hkk)
          have HPP := Lib.hid (Rep.keep hrp hkk)
          have Hm' := Lib.hid hm'
          have Hipl := Lib.hid hipl
          clear hx hrp hpm hia hipl hq1 hq2 hm' hkk
          obtain ⟨p0, p1, p2, p3⟩ := blkS4 (HXm6.out.alloc (.cells #[.int .i64 p, .int .i64 pr, .slice A2' ps.length c2'] 75))
          have pd := blkS1 (HXd6.out.alloc (.cells #[.int .i64 p, .int .i64 pr, .slice A2' ps.length c2'] 75))
          go_wp2_with fail
          refine (i_instOk (m := m) HDD.out HMM.out HPP.out (fun b hb => by have := hS b hb; simp; omega) Hm'.out Hipl.out).mono ?_
          rintro e w6 ⟨rfl, hb6⟩
          have Hb6 := Lib.hid (Hb5.out.trans (hb6.mono (by simp; omega)))
          clear hb6 y0 y1 y2 y3 t0 t1 t2 yd
          cases hqo : instB d m ((p : Int), pr, ps) with
          | false =>
           have Hqo := Lib.hid hqo
           clear hqo
           go_wp2_with fail
           go_ret
           exact ⟨ret_bool (by rw [Hmb.out]; unfold modB; rw [all_not Hx.out Hqo.out]; simp), HB1.out.trans (Hb6.out.mono (by omega))⟩
          | true =>
           have Hqo := Lib.hid hqo
           clear hqo
           go_wp2_with fail
           go_roundw
           case rel => exact ⟨j + 1, by omega, by go_num, Lib.hid (by rw [Hs.out, Hok.out, Hqo.out]; rfl), Hb6.out⟩
           case measure => simp [intOf]; omega
         ·have hge : (ni : Int) ≤ (j : Int) := by omega
          have hjn : j = ni := by omega
          have HA3 := Lib.hid (show m.2.2.1.all (instB d m) = true by have h1 := Hok.out; rw [List.take_of_length_le (by have := Hn.out.2.2.1; omega)] at h1; exact h1)
          clear hjn
          go_wp2_with fail
          clear y0 y1 y2 y3 hsz
          go_loopw [14, 102] (fun _ iv wr => ∃ j : Nat, j ≤ nm ∧ iv = .int .i64 j ∧ Hid ((m.2.2.2.take j).all (memB m.1) = true) ∧ Below W1.heap.size W1 wr) (fun _ iv _ => nm - (intOf iv).toNat)
          case atStart => exact ⟨0, Nat.zero_le _, rfl, Lib.hid rfl, Hb.out⟩
          case round =>
           clear Hok Hb HBw HXd6 HXm6 g1 hge hlt
           obtain ⟨j, hj, rfl, Hok, hb⟩ := hrel
           have Hb := Lib.hid hb
           have hsz := hb.size
           have HBw := Lib.hid (HB1.out.trans (hb.mono (by omega)))
           have HXd6 := Lib.hid (HXd.out.below hb HXd.out.lt)
           have HXm6 := Lib.hid (HXm.out.below hb HXm.out.lt)
           obtain ⟨y0, y1, y2, y3⟩ := blkS4 HXm6.out
           have g1 : (0 : Int) ≤ (j : Int) := by omega
           clear hb
           by_cases hlt : j < nm
           ·obtain ⟨ad2, m0, m1, m2, m3, rfl, hab2, hx, t0, t1, t2, t3⟩ := fMemS_row (HMe1.out.under hSW Hb.out) hlt
            have g2 : (j : Int) < (nm : Int) := by omega
            have Hx := Lib.hid hx
            have Hs := Lib.hid (all_take (p := memB m.1) hx)
            have Hb5 := Lib.hid (Hb.out.alloc hsz (.cells #[.int .i64 m0, .int .i64 m1, .int .i64 m2, .int .i64 m3] 77))
            have HMM := Lib.hid (RModule.keep (RModule.under HRm1.out hSW Hb.out) (w' := wr.alloc (.cells #[.int .i64 m0, .int .i64 m1, .int .i64 m2, .int .i64 m3] 77)) (fun q hq => World.cell?_alloc_lt _ _ q (by have := hS _ hq; omega)))
            have Has := Lib.hid (show memB m.1 (m0, m1, m2, m3) = (inR m0 0 ((ns : Int) - 1) && (inR m1 0 ((ns : Int) - 1) && (inR m2 0 ((ns : Int) - 1) && drivesB m.1 m3))) by simp only [memB]; rw [Hn.out.1])
            obtain ⟨p0, p1, p2, p3⟩ := blkS4 (HXm6.out.alloc (.cells #[.int .i64 m0, .int .i64 m1, .int .i64 m2, .int .i64 m3] 77))
            clear hx
            cases hq0 : inR m0 0 ((ns : Int) - 1) with
            | false =>
             have H0 := Lib.hid hq0
             clear hq0
             go_wp2_with fail
             refine (i_inRange m0 0 ((ns : Int) - 1) _).mono ?_
             rintro e w9 ⟨rfl, rfl⟩
             rw [H0.out]
             go_wp2_with fail
             go_ret
             exact ⟨ret_bool (by rw [Hmb.out]; unfold modB; rw [all_not Hx.out (by rw [Has.out, H0.out]; rfl)]; simp), HB1.out.trans (Hb5.out.mono (by omega))⟩
            | true =>
             have H0 := Lib.hid hq0
             clear hq0
             cases hq1 : inR m1 0 ((ns : Int) - 1) with
             | false =>
              have H1 := Lib.hid hq1
              clear hq1
              go_wp2_with fail
              refine (i_inRange m0 0 ((ns : Int) - 1) _).mono ?_
              rintro e w9 ⟨rfl, rfl⟩
              rw [H0.out]
              go_wp2_with fail
              refine (i_inRange m1 0 ((ns : Int) - 1) _).mono ?_
              rintro e w9 ⟨rfl, rfl⟩
              rw [H1.out]
              go_wp2_with fail
              go_ret
              exact ⟨ret_bool (by rw [Hmb.out]; unfold modB; rw [all_not Hx.out (by rw [Has.out, H0.out, H1.out]; rfl)]; simp), HB1.out.trans (Hb5.out.mono (by omega))⟩
             | true =>
              have H1 := Lib.hid hq1
              clear hq1
              cases hq2 : inR m2 0 ((ns : Int) - 1) with
              | false =>
               have H2 := Lib.hid hq2
               clear hq2
               go_wp2_with fail
               refine (i_inRange m0 0 ((ns : Int) - 1) _).mono ?_
               rintro e w9 ⟨rfl, rfl⟩
               rw [H0.out]
               go_wp2_with fail
               refine (i_inRange m1 0 ((ns : Int) - 1) _).mono ?_
               rintro e w9 ⟨rfl, rfl⟩
               rw [H1.out]
               go_wp2_with fail
               refine (i_inRange m2 0 ((ns : Int) - 1) _).mono ?_
               rintro e w9 ⟨rfl, rfl⟩
               rw [H2.out]
               go_wp2_with fail
               go_ret
               exact ⟨ret_bool (by rw [Hmb.out]; unfold modB; rw [all_not Hx.out (by rw [Has.out, H0.out, H1.out, H2.out]; rfl)]; simp), HB1.out.trans (Hb5.out.mono (by omega))⟩
              | true =>
               have H2 := Lib.hid hq2
               clear hq2
               go_wp2_with fail
               refine (i_inRange m0 0 ((ns : Int) - 1) _).mono ?_
               rintro e w9 ⟨rfl, rfl⟩
               rw [H0.out]
               go_wp2_with fail
               refine (i_inRange m1 0 ((ns : Int) - 1) _).mono ?_
               rintro e w9 ⟨rfl, rfl⟩
               rw [H1.out]
               go_wp2_with fail
               refine (i_inRange m2 0 ((ns : Int) - 1) _).mono ?_
               rintro e w9 ⟨rfl, rfl⟩
               rw [H2.out]
               go_wp2_with fail
               refine (i_drives (m := m) m3 HMM.out (fun b hb => by have := hS b hb; simp; omega)).mono ?_
               rintro e w6 ⟨rfl, hb6⟩
               have Hb6 := Lib.hid (Hb5.out.trans (hb6.mono (by simp; omega)))
               clear hb6 y0 y1 y2 y3 t0 t1 t2 t3
               cases hqo : drivesB m.1 m3 with
               | false =>
                have Hqo := Lib.hid hqo
                clear hqo
                go_wp2_with fail
                go_ret
                exact ⟨ret_bool (by rw [Hmb.out]; unfold modB; rw [all_not Hx.out (by rw [Has.out, H0.out, H1.out, H2.out, Hqo.out]; rfl)]; simp), HB1.out.trans (Hb6.out.mono (by omega))⟩
               | true =>
                have Hqo := Lib.hid hqo
                clear hqo
                go_wp2_with fail
                go_roundw
                case rel => exact ⟨j + 1, by omega, by go_num, Lib.hid (by rw [Hs.out, Hok.out, Has.out, H0.out, H1.out, H2.out, Hqo.out]; rfl), Hb6.out⟩
                case measure => simp [intOf]; omega
           ·have hge : (nm : Int) ≤ (j : Int) := by omega
            have hjn : j = nm := by omega
            have HA4 := Lib.hid (show m.2.2.2.all (memB m.1) = true by have h1 := Hok.out; rw [List.take_of_length_le (by have := Hn.out.2.2.2; omega)] at h1; exact h1)
            have yd := blkS1 HXd6.out
            clear hjn
            go_wp2_with fail
            refine (i_driverCounts (k := kn) (m := m) (RDesign.under H.out hS HBw.out) (fun b hb => by have := hS b hb; omega) Hx0.out Hcb.out HibM.out).mono ?_
            rintro e w4 ⟨v', rfl, hq, hb4⟩
            obtain ⟨A5, c5, rfl, hq5, _⟩ := sl_form hq (by rw [List.length_map, arrC_len])
            have Hb4 := Lib.hid (Hb.out.trans (hb4.mono hsz))
            have z4 := Hb4.out.size
            rw [Hn.out.1] at hq5 ⊢
            have Hq5 := Lib.hid hq5
            have HXm7 := Lib.hid (HXm.out.below Hb4.out HXm.out.lt)
            have HSg7 := Lib.hid (HSg1.out.under hSW Hb4.out)
            clear hq hq5 hb4 y0 y1 y2 y3 yd
            obtain ⟨y0, y1, y2, y3⟩ := blkS4 HXm7.out
            go_wp2_with fail
            go_loopw [15, 16, 140] (fun _ _ iv wz => ∃ j : Nat, j ≤ ns ∧ iv = .int .i64 j ∧ Hid ((List.range j).all (drvB1 d m) = true) ∧ wz = w4) (fun _ _ iv _ => ns - (intOf iv).toNat)
            case atStart => exact ⟨0, Nat.zero_le _, rfl, Lib.hid rfl, rfl⟩
            case round =>
             clear Hok hge hlt g1
             obtain ⟨j, hj, rfl, Hok, rfl⟩ := hrel
             by_cases hlt : j < ns
             ·obtain ⟨ad7, x0, x1, x2, rfl, hab7, hx7, s0, s1, s2⟩ := fSignalS_row HSg7.out hlt
              obtain ⟨ad8, y, rfl, hab8, hy, cy⟩ := fIntS_row Hq5.out hlt
              rw [arrC_get hlt] at hy
              injection hy with hy
              subst hy
              have Hka := Lib.hid (show kindAt m.1 (j : Int) = x0 by simp [kindAt, List.getD, hx7])
              have g1 : (0 : Int) ≤ (j : Int) := by omega
              have g2 : (j : Int) < (ns : Int) := by omega
              clear hx7
              cases hqd : drivenB x0 with
              | false =>
               have Hqd := Lib.hid hqd
               clear hqd
               go_wp2_with fail
               refine (i_isDriven x0 _).mono ?_
               rintro e w9 ⟨rfl, rfl⟩
               rw [Hqd.out]
               go_wp2_with fail
               go_roundw
               case rel => exact ⟨j + 1, by omega, by go_num, Lib.hid (by rw [range_succ_all, Hok.out]; unfold drvB1; rw [Hka.out, Hqd.out]; rfl), trivial⟩
               case measure => simp [intOf]; omega
              | true =>
               have Hqd := Lib.hid hqd
               clear hqd
               obtain ⟨cd, hcd⟩ : ∃ cd, cd = drvN d m j := ⟨_, rfl⟩
               rw [← hcd] at cy
               have Hcd := Lib.hid hcd
               clear hcd
               by_cases h1 : cd = 1
               ·subst h1
                go_wp2_with fail
                refine (i_isDriven x0 _).mono ?_
                rintro e w9 ⟨rfl, rfl⟩
                rw [Hqd.out]
                go_wp2_with fail
                go_roundw
                case rel => exact ⟨j + 1, by omega, by go_num, Lib.hid (by rw [range_succ_all, Hok.out]; unfold drvB1; rw [← Hcd.out]; simp), trivial⟩
                case measure => simp [intOf]; omega
               ·have qn : ((cd : Int) != 1) = true := by simp; omega
                have H1 := Lib.hid h1
                clear h1
                go_wp2_with fail
                refine (i_isDriven x0 _).mono ?_
                rintro e w9 ⟨rfl, rfl⟩
                rw [Hqd.out]
                go_wp2_with fail
                go_ret
                exact ⟨ret_bool (by rw [Hmb.out]; unfold modB drvsB; rw [range_all (n := m.1.length) (k := j) (by have := Hn.out.1; omega) (by unfold drvB1; rw [Hka.out, Hqd.out, ← Hcd.out, decide_eq_false H1.out]; rfl)]; simp), HB1.out.trans (Hb4.out.mono (by omega))⟩
             ·have hge : (ns : Int) ≤ (j : Int) := by omega
              have hjn : j = ns := by omega
              have HA5 := Lib.hid (show drvsB d m = true by unfold drvsB; rw [Hn.out.1, ← hjn]; exact Hok.out)
              clear hjn
              go_wp2_with fail
              go_ret
              exact ⟨ret_bool (by rw [Hmb.out]; unfold modB; rw [HA1.out, HA2.out, HA3.out, HA4.out, HA5.out]; rfl), HB1.out.trans (Hb4.out.mono (by omega))⟩
end Go.Proofs.YtolndlmhbnpmeaaDoor
