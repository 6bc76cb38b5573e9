/- Contracts: an order in which assignments can be evaluated: the program's function. -/
import Derived.Test.YtlgbdpcobbbglaaEvoA
import Derived.Test.YtlgbdpcobbbglaaDel
import Derived.Test.YtlgbdpcobbbglaaGa
import Derived.Outline
namespace Go.Proofs.Ytlgbdpcobbbglaa
open Go.RowKit

def slLen : Value → Nat | .slice _ n _ => n | _ => 0
theorem nI_lit (l : List Nat) : ints (nI l) = l.map fun x : Nat => Value.int .i64 (x : Int) := by simp [ints, nI]
theorem nI_erase (l : List Nat) (k : Nat) : ints (nI (l.eraseIdx k)) = (ints (nI l)).eraseIdx k := by
 rw [nI_lit, nI_lit]
 induction l generalizing k with
 | nil => rfl
 | cons x l ih => cases k with
  | zero => rfl
  | succ k => simp only [List.eraseIdx_cons_succ, List.map_cons]; rw [ih]
/-- an element of a list of places -/
theorem Reads.nat_at {w : World} {B n : Nat} {A : Option Addr} {l : List Nat} (h : Reads w B 1 A n (ints (nI l))) {k : Nat} (hk : k < n) :
  ∃ (ad : Addr) (x : Nat), A = some ad ∧ ad.block < B ∧ l[k]? = some x ∧ w.cell? (ad.add k) = some (.int .i64 (x : Int)) := by
 obtain ⟨ad, x, rfl, hb, hx, hc⟩ := h.int_at hk
 rw [nI_get] at hx
 cases hy : l[k]? with
 | none => rw [hy] at hx; cases hx
 | some y =>
  rw [hy] at hx
  simp only [Option.map_some, Option.some.injEq] at hx
  subst hx
  exact ⟨ad, y, rfl, hb, rfl, hc⟩
theorem okE_asg {m : TModule} (h : okE m = true) {i : Nat} {a : Int} {os : List TOp} (hi : m.2.1[i]? = some (a, os)) : ∃ s : Nat, a = (s : Int) ∧ s < m.1.length ∧ os.length ≤ 15 ∧ (∀ o ∈ os, (o.1 = 2 ∨ o.1 = 3) → 0 ≤ o.2.1 ∧ o.2.1 < (m.1.length : Int)) := by
 obtain ⟨_, _, _, hA, _, _⟩ := okE_iff.1 h
 obtain ⟨h1, _, h3⟩ := asgB_iff.1 (List.all_eq_true.1 hA _ (List.mem_of_getElem? hi))
 obtain ⟨h4, h5⟩ := inR_iff.1 h1
 obtain ⟨s, rfl⟩ := Int.eq_ofNat_of_zero_le h4
 refine ⟨s, rfl, by simp only at h5; omega, ?_, opsB_sig h3⟩
 unfold opsB at h3
 simp only [Bool.and_eq_true, decide_eq_true_eq] at h3
 exact h3.1
theorem todo_succ {m : TModule} {i : Nat} {a : TAssign} (h : m.2.1[i]? = some a) (x0 : Int) (hk : kindAt m.1 a.1 = x0) : idxN (tdP m) (m.2.1.take (i + 1)) = idxN (tdP m) (m.2.1.take i) ++ (if x0 = 3 then [] else [i]) := by
 rw [idxN_succ h]
 unfold tdP
 rw [hk]
 by_cases h3 : x0 = 3 <;> simp [h3]

def frB (m : TModule) (i j : Nat) : Bool := !rdB (asgA m i).2 (asgA m j).1
theorem ret_tup2 {v : Value} {a b : Bool} (h : b = a) : Ending.returned (.tuple #[v, .bool a]) = .returned (.tuple #[v, .bool b]) := by rw [h]
theorem ord_no {m : TModule} (h : okE m = false) : ordB m = false ∧ ordL m = [] := by
 unfold ordB ordL ordN
 rw [h]
 exact ⟨rfl, rfl⟩
theorem ord_none {m : TModule} (h : evoM m = none) : ordB m = false ∧ ordL m = [] := by
 unfold ordB ordL ordN
 rw [h]
 exact ⟨by simp, by cases okE m <;> rfl⟩
theorem ord_some {m : TModule} {l : List Nat} (ho : okE m = true) (h : evoM m = some l) : ordB m = true ∧ ordL m = nI l := by
 unfold ordB ordL ordN
 rw [h, ho]
 exact ⟨rfl, rfl⟩
set_option maxRecDepth 100000 in
set_option maxHeartbeats 16000000 in
theorem i_EvalOrder {w : World} {S : Nat → Prop} {v : Value} {m : TModule} (hz : sModule m ≤ 1048576) (h : RModule w S v m) (hS : ∀ b, S b → b < w.heap.size) :
  Calls Try.prog 45 #[v] w fun e w' => ∃ v', e = .returned (.tuple #[v', .bool (ordB m)]) ∧ QIntS w' (New w w') v' (ordL m) ∧ Below w.heap.size w w' := by
 obtain ⟨i0, hi, hz0, hz1, hz2⟩ := info_parts Try.infoIntC
 obtain ⟨A0, c0, A1, c1, A2, c2, A3, c3, rfl, hSg, hAs, -, -, hm0, hm1, hm2, hm3⟩ := mod_open h
 obtain ⟨ns, hns⟩ : ∃ ns, m.1.length = ns := ⟨_, rfl⟩
 obtain ⟨na, hna⟩ : ∃ na, m.2.1.length = na := ⟨_, rfl⟩
 obtain ⟨ni, hni⟩ : ∃ ni, m.2.2.1.length = ni := ⟨_, rfl⟩
 obtain ⟨nm, hnm⟩ : ∃ nm, m.2.2.2.length = nm := ⟨_, rfl⟩
 rw [hns, hna, hni, hnm] at h ⊢
 rw [hns] at hSg hm0
 rw [hna] at hAs hm1
 rw [hni] at hm2
 rw [hnm] at hm3
 unfold maxLen at hm0 hm1 hm2 hm3
 have Hn := Lib.hid (And.intro hns (And.intro hna (And.intro hni hnm)))
 have HB0 := Lib.hid ((Below.refl w.heap.size w).alloc (Nat.le_refl _) (.cells #[.slice A0 ns c0, .slice A1 na c1, .slice A2 ni c2, .slice A3 nm c3] 31))
 clear hns hna hnm
 by_cases hi0 : ni = 0
 rotate_left
 ·have hp0 : (0 : Int) < (ni : Int) := by omega
  have Hno := Lib.hid (ord_no (show okE m = false by unfold okE; rw [hni, decide_eq_false hi0]; rfl))
  clear hi0 hni h hSg hAs
  go_enter Try.func45, Try.ntmps45
  go_wp2_with fail
  go_ret2
  refine ⟨_, ret_tup2 Hno.out.1, ?_, HB0.out⟩
  rw [Hno.out.2]
  exact sep_nil _ _
 ·subst hi0
  have HB1 := Lib.hid (HB0.out.alloc (by simp) (.cells #[.slice A0 ns c0, .slice A1 na c1, .slice A2 0 c2, .slice A3 nm c3] 31))
  have HX1 := Lib.hid ((Blk.new w 31 #[.slice A0 ns c0, .slice A1 na c1, .slice A2 0 c2, .slice A3 nm c3]).alloc (.cells #[.slice A0 ns c0, .slice A1 na c1, .slice A2 0 c2, .slice A3 nm c3] 31))
  have hbk : Blk ((w.alloc (.cells #[.slice A0 ns c0, .slice A1 na c1, .slice A2 0 c2, .slice A3 nm c3] 31)).alloc (.cells #[.slice A0 ns c0, .slice A1 na c1, .slice A2 0 c2, .slice A3 nm c3] 31)) (w.heap.size + 1) 31 #[.slice A0 ns c0, .slice A1 na c1, .slice A2 0 c2, .slice A3 nm c3] := blk_new_at (by simp)
  have HD := Lib.hid (one_design (RModule.under h hS HB1.out) hbk)
  have hsd : ∀ b, (S b ∨ b = w.heap.size + 1) → b < ((w.alloc (.cells #[.slice A0 ns c0, .slice A1 na c1, .slice A2 0 c2, .slice A3 nm c3] 31)).alloc (.cells #[.slice A0 ns c0, .slice A1 na c1, .slice A2 0 c2, .slice A3 nm c3] 31)).heap.size := by
   intro b hb
   simp
   rcases hb with hb | hb
   ·have := hS b hb; omega
   ·omega
  have HSg := Lib.hid hSg
  have HAs := Lib.hid hAs
  have hzd := one_sz hz
  cases hdq : designB [m] with
  | false =>
   have Hno := Lib.hid (ord_no (show okE m = false by unfold okE; rw [hdq, Bool.and_false]))
   have Hdq := Lib.hid hdq
   clear hdq hbk h hSg hAs hni
   go_enter Try.func45, Try.ntmps45
   go_wp2_with fail
   refine (i_DesignOk (Nat.le_trans hzd (by decide)) HD.out hsd).mono ?_
   rintro e w1 ⟨rfl, hb1⟩
   rw [Hdq.out]
   have Hb1 := Lib.hid (HB1.out.trans (hb1.mono (by simp; omega)))
   clear hb1
   go_wp2_with fail
   go_ret2
   refine ⟨_, ret_tup2 Hno.out.1, ?_, Hb1.out⟩
   rw [Hno.out.2]
   exact sep_nil _ _
  | true =>
   have Hok := Lib.hid (show okE m = true by unfold okE; rw [hdq, hni]; rfl)
   have Hdq := Lib.hid hdq
   obtain ⟨hn30, hna30, _⟩ := okE_na Hok.out
   rw [Hn.out.1] at hn30
   rw [Hn.out.2.1] at hna30
   clear hdq hbk h hSg hAs hni
   go_enter Try.func45, Try.ntmps45
   go_wp2_with fail
   refine (i_DesignOk (Nat.le_trans hzd (by decide)) HD.out hsd).mono ?_
   rintro e w1 ⟨rfl, hb1⟩
   rw [Hdq.out]
   have HBw := Lib.hid (HB1.out.trans (hb1.mono (by simp; omega)))
   have z1 := hb1.size
   simp at z1
   have HXm := Lib.hid (HX1.out.below hb1 HX1.out.lt)
   have HSg1 := Lib.hid (HSg.out.under hS HBw.out)
   have HAs1 := Lib.hid (HAs.out.under hS HBw.out)
   have hSW : ∀ b, S b → b < w1.heap.size := fun b hb => by have := hS b hb; omega
   obtain ⟨y0, y1, y2, y3⟩ := blkS4 HXm.out
   clear hb1 hsd hzd
   go_wp2_with fail
   clear y0 y1 y2 y3
   go_loopw [4, 6, 7, 28] (fun tv _ _ iv wr => ∃ i : Nat, i ≤ na ∧ iv = .int .i64 i ∧ wr.ownsRow w1.heap.size 3 1 tv (idxN (tdP m) (m.2.1.take i)).length (ints (nI (idxN (tdP m) (m.2.1.take i)))) ∧ Below w1.heap.size w1 wr) (fun _ _ _ iv _ => na - (intOf iv).toNat)
   case atStart => exact ⟨0, Nat.zero_le _, rfl, by simpa [idxN, nI, ints] using World.ownsRow_nil _ _ _ _, Below.refl _ _⟩
   case round =>
    obtain ⟨i, hia, rfl, hown, hb⟩ := hrel
    have Hb := Lib.hid hb
    have hsz := hb.size
    have HXr := Lib.hid (HXm.out.below hb (by omega))
    have hlk := idxN_len (p := tdP m) (m.2.1.take i)
    rw [List.length_take] at hlk
    obtain ⟨L, hL⟩ : ∃ L, L = idxN (tdP m) (m.2.1.take i) := ⟨_, rfl⟩
    rw [← hL] at hown hlk
    have HL := Lib.hid hL
    have hll : L.length ≤ 30 := by omega
    obtain ⟨A, c, rfl, _, _, _⟩ := own_form hown
    have Hown := Lib.hid hown
    clear hb hown hL hlk
    by_cases hlt : i < na
    ·obtain ⟨ad2, a, os, A1', c1', rfl, hab2, hx, hro, hom, t0, t1⟩ := asg_row (HAs1.out.under hSW Hb.out) hlt
     obtain ⟨s, rfl, hsn, _, _⟩ := okE_asg Hok.out hx
     rw [Hn.out.1] at hsn
     have Hb2 := Lib.hid (Hb.out.alloc hsz (.cells #[.int .i64 (s : Int), .slice A1' os.length c1'] 76))
     obtain ⟨ad3, x0, x1, x2, rfl, hab3, hx3, e0, e1, e2⟩ := fSignalS_row (HSg1.out.under hSW Hb2.out) hsn
     have g1 : (0 : Int) ≤ (i : Int) := by omega
     have g2 : (i : Int) < (na : Int) := by omega
     have g3 : (0 : Int) ≤ (s : Int) := by omega
     have g4 : (s : Int) < (ns : Int) := by omega
     have Hs := Lib.hid (todo_succ hx x0 (by simp [kindAt, List.getD, hx3]))
     have Hown1 := Lib.hid (Hown.out.alloc (.cells #[.int .i64 (s : Int), .slice A1' os.length c1'] 76))
     obtain ⟨y0, y1, y2, y3⟩ := blkS4 (HXr.out.alloc (.cells #[.int .i64 (s : Int), .slice A1' os.length c1'] 76))
     clear hx hx3 hro hom e1 e2
     by_cases h3 : x0 = 3
     ·subst h3
      go_wp2_with fail
      go_roundw
      case rel => exact ⟨i + 1, by omega, by go_num, by rw [Hs.out, if_pos rfl, List.append_nil, ← HL.out]; exact Hown1.out, Hb2.out⟩
      case measure => simp [intOf]; omega
     ·have q3 : ((x0 : Int) != 3) = true := by simpa using h3
      have H3 := Lib.hid h3
      clear h3
      go_wp2_with (at_builtin; refine wpList_append_any _ rfl _ _ 47 rfl (w1.heap.size) 3 i0 (.int .i64 0) 1 8 Try.underlying47 hi hz0 hz1 hz2 rfl (by decide) _ _ _ rfl (Hown1.out.alloc _) _ _ 1 1 _ rfl (reads_new1 _ _ _ 1 1 rfl) (by intro u hu; simp at hu; first | (subst hu; rfl) | (rcases hu with rfl | rfl <;> rfl) | (rcases hu with rfl | rfl | rfl <;> rfl)) (by unfold maxLen; omega) (by omega) (by (try simp) <;> (try omega)) ?_; intro v2 w2 hown2 hgrow2 hblk2)
      have hb2 := below_push Hb2.out Hown1.out (Nat.le_refl _) (by simp; omega) hgrow2
      have Hown2 := Lib.hid hown2
      clear hown2 hgrow2 hblk2
      go_wp2_with fail
      go_roundw
      case rel => exact ⟨i + 1, by omega, by go_num, by rw [Hs.out, if_neg H3.out, ← HL.out, List.length_append, nI_app, ints_app]; exact Hown2.out, hb2⟩
      case measure => simp [intOf]; omega
    ·have hge : (na : Int) ≤ (i : Int) := by omega
     have hin : i = na := by omega
     have HT := Lib.hid (show L = todo0 m by unfold todo0; rw [HL.out, List.take_of_length_le (by rw [Hn.out.2.1]; omega)])
     clear hin
     have hHT := HT.out
     subst hHT
     go_wp2_with fail
     go_loopw [4, 5, 8, 9, 10, 11, 13, 51, 58] (fun tv ov _ _ _ _ _ _ _ wr => ∃ (todo out : List Nat), Hid (EvoI m todo out) ∧ wr.ownsRow w1.heap.size 3 1 tv todo.length (ints (nI todo)) ∧ wr.ownsRow w1.heap.size 3 1 ov out.length (ints (nI out)) ∧ (∀ g, tv.ownBlock = some g → ov.ownBlock ≠ some g) ∧ Below w1.heap.size w1 wr) (fun tv _ _ _ _ _ _ _ _ _ => slLen tv)
     case atStart => exact ⟨todo0 m, [], Lib.hid (EvoI.start Hok.out), Hown.out, World.ownsRow_nil _ _ _ _, fun g _ hc => (by simp [Value.ownBlock] at hc), Hb.out⟩
     case round =>
      clear Hown Hb hsz HXr HT HL hll hge
      obtain ⟨todo, out, HI, hown1, hown2, hdis, hb⟩ := hrel
      obtain ⟨wo, hwo⟩ : ∃ wo, wo = wr := ⟨_, rfl⟩
      subst hwo
      have Hbo := Lib.hid hb
      have hszo := hb.size
      have HXo := Lib.hid (HXm.out.below hb (by omega))
      have hlen := HI.out.len
      obtain ⟨nt, hnt⟩ : ∃ nt, todo.length = nt := ⟨_, rfl⟩
      obtain ⟨no, hno⟩ : ∃ no, out.length = no := ⟨_, rfl⟩
      rw [hnt] at hown1 hlen
      rw [hno] at hown2 hlen
      obtain ⟨At, ct, rfl, hct, hcm, hAt⟩ := own_form hown1
      obtain ⟨Ao, co, rfl, _, _, _⟩ := own_form hown2
      unfold maxLen at hcm
      have HO1 := Lib.hid hown1
      have HO2 := Lib.hid hown2
      have HD := Lib.hid hdis
      have Hnt := Lib.hid hnt
      have Hno := Lib.hid hno
      clear hb hown1 hown2 hdis hnt hno
      by_cases h0 : nt = 0
      ·subst h0
       have HE := Lib.hid (ord_some Hok.out (show evoM m = some out by
        have h1 := HI.out
        rw [List.eq_nil_of_length_eq_zero Hnt.out] at h1
        exact h1.stop))
       go_wp2_with fail
       go_ret2
       refine ⟨_, ret_tup2 HE.out.1, ?_, HBw.out.trans (Hbo.out.mono (by omega))⟩
       rw [HE.out.2]
       have hO := HO2.out
       exact sep_ints (by unfold maxLen; omega) hO (fun g hg => ⟨by have := (hO.lt g hg).1; omega, (hO.lt g hg).2⟩)
      ·obtain ⟨gt, rfl, hgt1, hgt2⟩ := hAt (by omega)
       have hp0 : (0 : Int) < (nt : Int) := by omega
       go_wp2_with fail
       simp only [decide_eq_true (show 0 < nt by omega)]
       go_loopw [8, 9, 10, 11, 13, 51, 58] (fun tv _ _ _ _ iv _ wr => tv = .int .i64 (-1) ∧ ∃ k : Nat, k ≤ nt ∧ iv = .int .i64 k ∧ Hid ((todo.take k).all (fun i => !freeB m todo i) = true) ∧ Below wo.heap.size wo wr) (fun _ _ _ _ _ iv _ _ => nt - (intOf iv).toNat)
       case atStart => exact ⟨rfl, 0, Nat.zero_le _, rfl, Lib.hid rfl, Below.refl _ _⟩
       case round =>
        obtain ⟨rfl, k, hk, rfl, Hnf, hb⟩ := hrel
        have Hb := Lib.hid hb
        have hsz := hb.size
        clear hb
        by_cases hlt : k < nt
        ·obtain ⟨ik, hik, tk⟩ := own_nat_at (own_below HO1.out Hb.out (Nat.le_refl _)) hlt
         obtain ⟨aI, hai⟩ := HI.out.mem ik (List.mem_of_getElem? hik)
         have hin : ik < na := by have := (List.getElem?_eq_some_iff.1 hai).1; have := Hn.out.2.1; omega
         have g1 : (0 : Int) ≤ (k : Int) := by omega
         have g2 : (k : Int) < (nt : Int) := by omega
         have g3 : (0 : Int) ≤ (ik : Int) := by omega
         have g4 : (ik : Int) < (na : Int) := by omega
         have Hik := Lib.hid hik
         clear hai hik
         go_wp2_with fail
         clear tk
         obtain ⟨wk, hwk⟩ : ∃ wk, wk = wr := ⟨_, rfl⟩
         subst hwk
         go_loopw [11, 13, 58] (fun fv _ jv wr => ∃ j : Nat, j ≤ nt ∧ jv = .int .i64 j ∧ fv = .bool ((todo.take j).all (frB m ik)) ∧ Below wo.heap.size wo wr) (fun _ _ jv _ => nt - (intOf jv).toNat)
         case atStart => exact ⟨0, Nat.zero_le _, rfl, rfl, Hb.out⟩
         case round =>
          clear Hb hsz
          obtain ⟨j, hj, rfl, rfl, hb⟩ := hrel
          have Hb := Lib.hid hb
          have hsz := hb.size
          have Hbj := Lib.hid (Hbo.out.trans (hb.mono (by omega)))
          have HXj := Lib.hid (HXo.out.below hb HXo.out.lt)
          clear hb
          by_cases hlj : j < nt
          ·obtain ⟨jk, hjk, tj⟩ := own_nat_at (own_below HO1.out Hb.out (Nat.le_refl _)) hlj
           obtain ⟨aJ, haj⟩ := HI.out.mem jk (List.mem_of_getElem? hjk)
           have hjn : jk < na := by have := (List.getElem?_eq_some_iff.1 haj).1; have := Hn.out.2.1; omega
           obtain ⟨ad2, a, os, A1', c1', rfl, hab2, hx, hro, hom, t0, t1⟩ := asg_row (HAs1.out.under hSW Hbj.out) hin
           obtain ⟨ad3, a', os', A2', c2', hAe, hab3, hx', hro', hom', s0, s1⟩ := asg_row (HAs1.out.under hSW Hbj.out) hjn
           obtain rfl : ad2 = ad3 := by injection hAe
           have hbk : ad2.block < wr.heap.size := by have := hS _ hab2; omega
           have g5 : (0 : Int) ≤ (j : Int) := by omega
           have g6 : (j : Int) < (nt : Int) := by omega
           have g7 : (0 : Int) ≤ (jk : Int) := by omega
           have g8 : (jk : Int) < (na : Int) := by omega
           have Hs := Lib.hid (all_take (p := frB m ik) hjk)
           have Hfr := Lib.hid (show frB m ik jk = !rdB os a' by unfold frB; rw [asgA_get hx, asgA_get hx'])
           have Hro := Lib.hid hro
           clear hjk haj hx hx' hro hro' hAe
           obtain ⟨fj, hfj⟩ : ∃ fj, fj = (todo.take j).all (frB m ik) := ⟨_, rfl⟩
           rw [← hfj] at Hs ⊢
           clear hfj
           cases fj with
           | false =>
            go_wp2_with fail
            refine wp_region_lexC (by kernel_rfl) (by kernel_rfl) (fun x => Below wr.heap.size wr x) ((Below.refl _ _).drew) (fun lexNE => ?_)
            obtain ⟨cm0, cm1, cm2, cm3⟩ := bwS4 HXj.out HXj.out.lt
            have ci := wcell t1 (by rw [nxt_block]; exact hbk)
            have cj := wcell s0 (by rw [block_of_add]; exact hbk)
            (repeat (first | (refine lex_r fun K hK => ?_; go_big_quiet_op; refine hK _ ?_; clear hK K) | (refine lex_k fun K hK => ?_; go_simp; refine hK _ ?_; clear hK K)))
            (refine lex_nil ?_)
            clear lexNE cm0 cm1 cm2 cm3 ci cj
            go_wp2_with fail
            go_roundw
            case rel => exact ⟨j + 1, by omega, by go_num, by rw [Hs.out]; rfl, Hb.out.drew⟩
            case measure => simp [intOf]; omega
           | true =>
            go_wp2_with fail
            refine wp_region_lexC (by kernel_rfl) (by kernel_rfl) (fun x => Below wr.heap.size wr x) ((Below.refl _ _).drew) (fun lexNE => ?_)
            obtain ⟨cm0, cm1, cm2, cm3⟩ := bwS4 HXj.out HXj.out.lt
            have ci := wcell t1 (by rw [nxt_block]; exact hbk)
            have cj := wcell s0 (by rw [block_of_add]; exact hbk)
            (repeat (first | (refine lex_r fun K hK => ?_; go_big_quiet_op; refine hK _ ?_; clear hK K) | (refine lex_k fun K hK => ?_; go_simp; refine hK _ ?_; clear hK K)))
            (refine lex_e fun K hK => ?_; go_big_op)
            refine (i_readsSignal (os := os) a' (Hro.out.keep (w' := wr.drew) (fun _ _ => rfl)) hom (fun b hb => by have := hS b hb; show b < wr.heap.size; omega)).mono ?_
            rintro e w8 ⟨rfl, hb8⟩
            have H8 := Lib.hid ((Below.refl wr.heap.size wr).drew.trans hb8)
            refine hK _ _ (Cls.mk' H8.out) ?_
            clear hK K hb8
            (repeat (first | (refine lex_r fun K hK => ?_; go_big_quiet_op; refine hK _ ?_; clear hK K) | (refine lex_k fun K hK => ?_; go_simp; refine hK _ ?_; clear hK K)))
            (refine lex_nil ?_)
            clear lexNE cm0 cm1 cm2 cm3 ci cj
            go_wp2_with fail
            go_roundw
            case rel => exact ⟨j + 1, by omega, by go_num, by rw [Hs.out, Hfr.out]; rfl, Hb.out.trans (H8.out.mono hsz)⟩
            case measure => simp [intOf]; omega
          ·have hge : (nt : Int) ≤ (j : Int) := by omega
           have hjn : todo.take j = todo := List.take_of_length_le (by have := Hnt.out; omega)
           rw [hjn]
           have Hfe := Lib.hid (show todo.all (frB m ik) = freeB m todo ik from rfl)
           clear hjn
           obtain ⟨fj, hfj⟩ : ∃ fj, fj = todo.all (frB m ik) := ⟨_, rfl⟩
           rw [← hfj] at Hfe ⊢
           clear hfj
           cases fj with
           | false =>
            go_wp2_with fail
            go_roundw
            case rel => exact ⟨rfl, k + 1, by omega, by go_num, Lib.hid (by rw [all_take (p := fun i => !freeB m todo i) Hik.out, Hnf.out, ← Hfe.out]; rfl), Hb.out⟩
            case measure => simp [intOf]; omega
           | true =>
            have HF := Lib.hid (find_at (p := freeB m todo) Hnf.out Hik.out Hfe.out.symm)
            have HO1j := Lib.hid (own_below HO1.out Hb.out (Nat.le_refl _))
            have HO2j := Lib.hid (own_below HO2.out Hb.out (Nat.le_refl _))
            obtain ⟨ik', hik', tk⟩ := own_nat_at HO1j.out hlt
            obtain rfl : ik = ik' := by have h1 := Hik.out; rw [hik'] at h1; injection h1 with h1; exact h1.symm
            clear hik'
            go_wp2_with (at_builtin; refine wpList_append_any _ rfl _ _ 47 rfl (w1.heap.size) 3 i0 (.int .i64 0) 1 8 Try.underlying47 hi hz0 hz1 hz2 rfl (by decide) _ _ _ rfl (HO2j.out.alloc _) _ _ 1 1 _ rfl (reads_new _ _ 1 1 rfl) (by intro u hu; simp at hu; first | (subst hu; rfl) | (rcases hu with rfl | rfl <;> rfl) | (rcases hu with rfl | rfl | rfl <;> rfl)) (by unfold maxLen; omega) (by omega) (by (try simp) <;> (try omega)) ?_; intro v7 w7 hown7 hgrow7 hblk7)
            have hb7 := Lib.hid (below_push Hbj.out HO2j.out (Nat.le_refl _) (by omega) hgrow7)
            have HT7 := Lib.hid (own_keep (w' := w7) (HO1j.out.alloc (.cells #[.int .i64 (ik : Int)] 3)) (fun g hg => hgrow7.block g (by injection hg with hg; subst hg; simp; omega) (by injection hg with hg; subst hg; exact fun e => HD.out gt rfl e.symm)))
            have hdj : v7.ownBlock ≠ some gt := by
             rcases hblk7 with h1 | h1
             ·rw [h1]; exact HD.out gt rfl
             ·rw [h1]; intro hc; injection hc with hc; simp at hc; omega
            have Hdj := Lib.hid hdj
            obtain ⟨A7, c7, rfl, _, _, _⟩ := own_form hown7
            have Hown7 := Lib.hid hown7
            clear hown7 hgrow7 hblk7 hdj tk
            have q1 : (k : Int) ≤ (ct : Int) := by omega
            have q2 : (k : Int) + 1 ≤ (nt : Int) := by omega
            go_wp2_with fail
            refine wp_region_lexC (by kernel_rfl) (by kernel_rfl) (fun _ => True) (trivial) (fun lexNE => ?_)
            (repeat (first | (refine lex_r fun K hK => ?_; go_big_quiet_op; refine hK _ ?_; clear hK K) | (refine lex_k fun K hK => ?_; go_simp; refine hK _ ?_; clear hK K)))
            obtain ⟨AD, hAD⟩ : ∃ AD, AD = (if ct = k + 1 then (⟨gt, 0, none⟩ : Addr) else ⟨gt, k + 1, none⟩) := ⟨_, rfl⟩
            have hif : (if ct = k + 1 then some (⟨gt, 0, none⟩ : Addr) else some ⟨gt, k + 1, none⟩) = some AD := by rw [hAD]; split <;> rfl
            rw [hif]
            have hsrc := del_src (own_drew HT7.out) hlt
            rw [show (⟨gt, 0, none⟩ : Addr).add (k + 1) = ⟨gt, k + 1, none⟩ by simp [Addr.add], ← hAD] at hsrc
            refine lex_e fun K hK => ?_
            refine wp_append_del _ _ _ 47 (by rfl) w1.heap.size 3 i0 Try.underlying47 hi hz1 gt nt ct k (ints (nI todo)) (own_drew HT7.out) hlt AD hsrc (ints_one _) (ct - (k + 1)) (by rfl) (by rfl) ?_
            intro w8 hown8 hgrow8
            go_simp
            refine hK _ _ (Cls.mk' trivial) ?_
            clear hK K
            (repeat (first | (refine lex_r fun K hK => ?_; go_big_quiet_op; refine hK _ ?_; clear hK K) | (refine lex_k fun K hK => ?_; go_simp; refine hK _ ?_; clear hK K)))
            (refine lex_nil ?_)
            clear lexNE hsrc hif hAD
            have hel : (todo.eraseIdx k).length = nt - 1 := by rw [List.length_eraseIdx, if_pos (by rw [Hnt.out]; exact hlt), Hnt.out]
            have HO8 := Lib.hid (own_keep (w' := w8) Hown7.out (fun g hg => hgrow8.block g (by exact (Hown7.out.lt g hg).2) (fun e => Hdj.out (by rw [hg]; exact e))))
            have Hb8 := Lib.hid (hb7.out.drew.trans (below_of_grown hgrow8 (by have := hb7.out.size; exact this) (fun g hg => by injection hg with hg; omega)))
            have Hown8 := Lib.hid hown8
            have Hel := Lib.hid hel
            clear hown8 hgrow8 hel
            go_wp2_with fail
            go_roundw
            case rel =>
             refine ⟨todo.eraseIdx k, out ++ [ik], Lib.hid (HI.out.step HF.out Hik.out), ?_, ?_, ?_, Hb8.out⟩
             ·rw [Hel.out, nI_erase]; exact Hown8.out
             ·rw [List.length_append, nI_app, ints_app, Hno.out]; exact HO8.out
             ·intro g hg; injection hg with hg; subst hg; exact Hdj.out
            case measure => simp [slLen]; omega
        ·have hge : (nt : Int) ≤ (k : Int) := by omega
         have HE := Lib.hid (ord_none (HI.out.fail (by have := Hnt.out; omega) (find_none (by
          have h1 := Hnf.out
          rw [List.take_of_length_le (by have := Hnt.out; omega)] at h1
          exact h1))))
         go_wp2_with fail
         go_ret2
         refine ⟨_, ret_tup2 HE.out.1, ?_, HBw.out.trans ((Hbo.out.trans (Hb.out.mono (by omega))).mono (by omega))⟩
         rw [HE.out.2]
         exact sep_nil _ _
end Go.Proofs.Ytlgbdpcobbbglaa
