/- Words and contracts that later texts use. -/
import Derived.Test.YtolndlmhbnpmeaaDoorGa
import Derived.Outline
import Derived.Test.YtolndlmhbnpmeaaDoorOpS
/- Contracts: operators: their arity, their validity: the program's and the reference's functions. -/
namespace Go.Proofs.YtolndlmhbnpmeaaDoor
open Go.RowKit

def opAr (k : Int) : Int := if 0 ≤ k ∧ k ≤ 3 then 0 else if k = 4 then 1 else if 5 ≤ k ∧ k ≤ 11 then 2 else if k = 12 then 3 else -1
theorem opAr_bd (k : Int) : -1 ≤ opAr k ∧ opAr k ≤ 3 := by unfold opAr; repeat (split <;> try omega)
theorem inR_dec (n lo hi : Int) : inR n lo hi = decide (lo ≤ n ∧ n ≤ hi) := rfl

set_option maxHeartbeats 2000000 in
theorem i_OpArity (k : Int) (w : World) : Calls Tryd.prog 58 #[.int .i64 k] w fun e w' => e = .returned (.int .i64 (opAr k)) ∧ w = w' := by
 by_cases h1 : 0 ≤ k ∧ k ≤ 3
 ·have H1 := Lib.hid (show inR k 0 3 = true from inR_iff.2 h1)
  have He := Lib.hid (show opAr k = 0 by unfold opAr; rw [if_pos h1])
  clear h1
  go_enter Tryd.func58, Tryd.ntmps58
  go_wp2_with (first | (go_at_call 37; refine (i_inRange _ _ _ _).mono ?_; rintro e w' ⟨rfl, rfl⟩; rw [H1.out]))
  go_ret
  exact ⟨ret_int He.out.symm, rfl⟩
 ·have H1 := Lib.hid (show inR k 0 3 = false by simp only [inR, decide_eq_false_iff_not]; exact h1)
  by_cases h2 : k = 4
  ·subst h2
   have He := Lib.hid (show opAr 4 = 1 by decide)
   go_enter Tryd.func58, Tryd.ntmps58
   go_wp2_with (first | (go_at_call 37; refine (i_inRange _ _ _ _).mono ?_; rintro e w' ⟨rfl, rfl⟩; rw [H1.out]))
   go_ret
   exact ⟨ret_int He.out.symm, rfl⟩
  ·have q2 : (k == 4) = false := by simpa using h2
   by_cases h3 : 5 ≤ k ∧ k ≤ 11
   ·have H3 := Lib.hid (show inR k 5 11 = true from inR_iff.2 h3)
    have He := Lib.hid (show opAr k = 2 by unfold opAr; rw [if_neg h1, if_neg h2, if_pos h3])
    clear h1 h2 h3
    go_enter Tryd.func58, Tryd.ntmps58
    go_wp2_with (first | (go_at_call 37; refine (i_inRange _ _ _ _).mono ?_; rintro e w' ⟨rfl, rfl⟩; first | rw [H1.out] | rw [H3.out]))
    go_ret
    exact ⟨ret_int He.out.symm, rfl⟩
   ·have H3 := Lib.hid (show inR k 5 11 = false by simp only [inR, decide_eq_false_iff_not]; exact h3)
    by_cases h4 : k = 12
    ·subst h4
     have He := Lib.hid (show opAr 12 = 3 by decide)
     go_enter Tryd.func58, Tryd.ntmps58
     go_wp2_with (first | (go_at_call 37; refine (i_inRange _ _ _ _).mono ?_; rintro e w' ⟨rfl, rfl⟩; first | rw [H1.out] | rw [H3.out]))
     go_ret
     exact ⟨ret_int He.out.symm, rfl⟩
    ·have q4 : (k == 12) = false := by simpa using h4
     have He := Lib.hid (show opAr k = -1 by unfold opAr; rw [if_neg h1, if_neg h2, if_neg h3, if_neg h4])
     clear h1 h2 h3 h4
     go_enter Tryd.func58, Tryd.ntmps58
     go_wp2_with (first | (go_at_call 37; refine (i_inRange _ _ _ _).mono ?_; rintro e w' ⟨rfl, rfl⟩; first | rw [H1.out] | rw [H3.out]))
     go_ret
     exact ⟨ret_int He.out.symm, rfl⟩

set_option maxHeartbeats 2000000 in
theorem s_OpArity (k : Int) (w : World) : Calls Tryd.prog 56 #[.int .i64 k] w fun e w' => e = .returned (.int .i64 (opAr k)) ∧ w = w' := by
 by_cases h0 : 0 ≤ k ∧ k ≤ 12
 ·have H0 := Lib.hid (show inR k 0 12 = true from inR_iff.2 h0)
  obtain ⟨h01, h02⟩ := h0
  by_cases h1 : k ≤ 3
  ·have He := Lib.hid (show opAr k = 0 by unfold opAr; rw [if_pos ⟨h01, h1⟩])
   go_enter Tryd.func56, Tryd.ntmps56
   go_wp2_with (first | (go_at_call 60; refine (s_l01In _ _ _ _).mono ?_; rintro e w' ⟨rfl, rfl⟩; rw [H0.out]))
   go_ret
   exact ⟨ret_int He.out.symm, rfl⟩
  ·have h1' : 3 < k := by omega
   by_cases h2 : k = 4
   ·subst h2
    have He := Lib.hid (show opAr 4 = 1 by decide)
    go_enter Tryd.func56, Tryd.ntmps56
    go_wp2_with (first | (go_at_call 60; refine (s_l01In _ _ _ _).mono ?_; rintro e w' ⟨rfl, rfl⟩; rw [H0.out]))
    go_ret
    exact ⟨ret_int He.out.symm, rfl⟩
   ·have q2 : (k == 4) = false := by simpa using h2
    by_cases h4 : k = 12
    ·subst h4
     have He := Lib.hid (show opAr 12 = 3 by decide)
     go_enter Tryd.func56, Tryd.ntmps56
     go_wp2_with (first | (go_at_call 60; refine (s_l01In _ _ _ _).mono ?_; rintro e w' ⟨rfl, rfl⟩; rw [H0.out]))
     go_ret
     exact ⟨ret_int He.out.symm, rfl⟩
    ·have q4 : (k == 12) = false := by simpa using h4
     have He := Lib.hid (show opAr k = 2 by unfold opAr; rw [if_neg (by omega), if_neg h2, if_pos (by omega)])
     go_enter Tryd.func56, Tryd.ntmps56
     go_wp2_with (first | (go_at_call 60; refine (s_l01In _ _ _ _).mono ?_; rintro e w' ⟨rfl, rfl⟩; rw [H0.out]))
     go_ret
     exact ⟨ret_int He.out.symm, rfl⟩
 ·have H0 := Lib.hid (show inR k 0 12 = false by simp only [inR, decide_eq_false_iff_not]; exact h0)
  have He := Lib.hid (show opAr k = -1 by unfold opAr; rw [if_neg (by omega), if_neg (by omega), if_neg (by omega), if_neg (by omega)])
  go_enter Tryd.func56, Tryd.ntmps56
  go_wp2_with (first | (go_at_call 60; refine (s_l01In _ _ _ _).mono ?_; rintro e w' ⟨rfl, rfl⟩; rw [H0.out]))
  go_ret
  exact ⟨ret_int He.out.symm, rfl⟩
end Go.Proofs.YtolndlmhbnpmeaaDoor

/- Contracts: is an operator valid, is a list of operators an expression: the program's and the reference's functions. -/
namespace Go.Proofs.YtolndlmhbnpmeaaDoor
open Go.RowKit

def opB (k a b s : Int) : Bool :=
 if k = 0 then inR a 0 15 && decide (b = 0) else if k = 2 then decide (0 ≤ a) && decide (a < s) && decide (b = 0) else if k = 3 then decide (0 ≤ a) && decide (a < s) && inR b 0 3
 else decide (0 ≤ opAr k) && decide (a = 0) && decide (b = 0)

set_option maxRecDepth 100000 in
set_option maxHeartbeats 4000000 in
theorem i_opOk (k a b s : Int) (w : World) : Calls Tryd.prog 55 #[.agg #[.int .i64 k, .int .i64 a, .int .i64 b], .int .i64 s] w fun e w' => e = .returned (.bool (opB k a b s)) ∧ Below w.heap.size w w' := by
 have hb : (b == 0) = decide (b = 0) := by rw [Bool.eq_iff_iff]; simp
 have ha : (a == 0) = decide (a = 0) := by rw [Bool.eq_iff_iff]; simp
 by_cases h0 : k = 0
 ·subst h0
  have He := Lib.hid (show opB 0 a b s = (inR a 0 15 && decide (b = 0)) by unfold opB; rw [if_pos rfl])
  go_enter Tryd.func55, Tryd.ntmps55
  cases hx : inR a 0 15
  ·have Hx := Lib.hid hx
   clear hx ha hb
   go_wp2_with (first | (go_at_call 37; refine (i_inRange _ _ _ _).mono ?_; rintro e w' ⟨rfl, rfl⟩; rw [Hx.out]))
   go_ret
   exact ⟨ret_bool (by rw [He.out, Hx.out]; rfl), bel_⟩
  ·have Hx := Lib.hid hx
   have Hb := Lib.hid hb
   clear hx ha hb
   go_wp2_with (first | (go_at_call 37; refine (i_inRange _ _ _ _).mono ?_; rintro e w' ⟨rfl, rfl⟩; rw [Hx.out]))
   go_ret
   exact ⟨ret_bool (by rw [He.out, Hx.out, ← Hb.out]; rfl), bel_⟩
 ·have q0 : (k == 0) = false := by simpa using h0
  by_cases h2 : k = 2
  ·subst h2
   have He := Lib.hid (show opB 2 a b s = (decide (0 ≤ a) && decide (a < s) && decide (b = 0)) by unfold opB; rw [if_neg h0, if_pos rfl])
   have Hb := Lib.hid hb
   clear ha hb q0
   by_cases h3 : 0 ≤ a
   ·by_cases h4 : a < s
    ·go_enter Tryd.func55, Tryd.ntmps55
     go_wp2_with fail
     go_ret
     exact ⟨ret_bool (by rw [He.out, ← Hb.out]; simp [h3, h4]), bel_⟩
    ·have h4' : s ≤ a := by omega
     go_enter Tryd.func55, Tryd.ntmps55
     go_wp2_with fail
     go_ret
     exact ⟨ret_bool (by rw [He.out]; simp <;> intros <;> omega), bel_⟩
   ·have h3' : a < 0 := by omega
    go_enter Tryd.func55, Tryd.ntmps55
    go_wp2_with fail
    go_ret
    exact ⟨ret_bool (by rw [He.out]; simp <;> intros <;> omega), bel_⟩
  ·have q2 : (k == 2) = false := by simpa using h2
   by_cases h3 : k = 3
   ·subst h3
    have He := Lib.hid (show opB 3 a b s = (decide (0 ≤ a) && decide (a < s) && inR b 0 3) by unfold opB; rw [if_neg h0, if_neg h2, if_pos rfl])
    clear ha hb q0 q2
    by_cases h3 : 0 ≤ a
    ·by_cases h4 : a < s
     ·go_enter Tryd.func55, Tryd.ntmps55
      go_wp2_with (first | (go_at_call 37; refine (i_inRange _ _ _ _).mono ?_; rintro e w' ⟨rfl, rfl⟩))
      go_ret
      exact ⟨ret_bool (by rw [He.out]; simp [h3, h4]), bel_⟩
     ·have h4' : s ≤ a := by omega
      go_enter Tryd.func55, Tryd.ntmps55
      go_wp2_with fail
      go_ret
      exact ⟨ret_bool (by rw [He.out]; simp <;> intros <;> omega), bel_⟩
    ·have h3' : a < 0 := by omega
     go_enter Tryd.func55, Tryd.ntmps55
     go_wp2_with fail
     go_ret
     exact ⟨ret_bool (by rw [He.out]; simp <;> intros <;> omega), bel_⟩
   ·have q3 : (k == 3) = false := by simpa using h3
    have He := Lib.hid (show opB k a b s = (decide (0 ≤ opAr k) && decide (a = 0) && decide (b = 0)) by unfold opB; rw [if_neg h0, if_neg h2, if_neg h3])
    have Ha := Lib.hid ha
    have Hb := Lib.hid hb
    clear ha hb h0 h2 h3
    by_cases h4 : 0 ≤ opAr k
    ·by_cases h5 : a = 0
     ·subst h5
      go_enter Tryd.func55, Tryd.ntmps55
      go_wp2_with (first | (go_at_call 58; refine (i_OpArity _ _).mono ?_; rintro e w' ⟨rfl, rfl⟩))
      go_ret
      exact ⟨ret_bool (by rw [He.out, ← Hb.out]; simp [h4]), bel_⟩
     ·have q5 : (a == 0) = false := by simpa using h5
      have H5 := Lib.hid h5
      clear h5
      go_enter Tryd.func55, Tryd.ntmps55
      go_wp2_with (first | (go_at_call 58; refine (i_OpArity _ _).mono ?_; rintro e w' ⟨rfl, rfl⟩))
      go_ret
      exact ⟨ret_bool (by rw [He.out]; simp [H5.out]), bel_⟩
    ·have h4' : opAr k < 0 := by omega
     go_enter Tryd.func55, Tryd.ntmps55
     go_wp2_with (first | (go_at_call 58; refine (i_OpArity _ _).mono ?_; rintro e w' ⟨rfl, rfl⟩))
     go_ret
     exact ⟨ret_bool (by rw [He.out]; simp <;> intros <;> omega), bel_⟩
end Go.Proofs.YtolndlmhbnpmeaaDoor

/- Contracts: is a list of operators an expression: the program's and the reference's functions. -/
namespace Go.Proofs.YtolndlmhbnpmeaaDoor
open Go.RowKit

abbrev Op3 := Int × Int × Int
def opT (s : Int) (o : Op3) : Bool := opB o.1 o.2.1 o.2.2 s
/-- operands that are still wanted -/
def nd (l : List Op3) : Int := 1 + (l.map fun o => opAr o.1 - 1).sum
def preB (s : Int) (l : List Op3) (k : Nat) : Bool := (List.range k).all fun j => decide (nd (l.take j) ≠ 0) && opT s (l.getD j (0, 0, 0))
def opsB (l : List Op3) (s : Int) : Bool := decide (l.length ≤ 15) && (preB s l l.length && decide (nd l = 0))
theorem nd_nil : nd [] = 1 := rfl
theorem nd_app (a b : List Op3) : nd (a ++ b) = nd a + nd b - 1 := by
 unfold nd
 rw [List.map_append, List.sum_append]
 omega
theorem nd_succ {l : List Op3} {k : Nat} {o : Op3} (h : l[k]? = some o) : nd (l.take (k + 1)) = nd (l.take k) + (opAr o.1 - 1) := by
 rw [List.take_add_one, h, nd_app]
 simp [nd]
 omega
theorem nd_bd : ∀ l : List Op3, -(2 * (l.length : Int)) ≤ nd l - 1 ∧ nd l - 1 ≤ 2 * (l.length : Int)
 | [] => by simp [nd]
 | o :: l => by
  have ih := nd_bd l
  have h := opAr_bd o.1
  unfold nd at ih ⊢
  simp only [List.map_cons, List.sum_cons, List.length_cons]
  omega
theorem preB_succ {s : Int} {l : List Op3} {k : Nat} {o : Op3} (h : l[k]? = some o) : preB s l (k + 1) = (preB s l k && (decide (nd (l.take k) ≠ 0) && opT s o)) := by
 unfold preB
 rw [List.range_succ, List.all_append]
 simp [List.getD, h]
theorem preB_not {s : Int} {l : List Op3} {k : Nat} {o : Op3} (hk : k < l.length) (h : l[k]? = some o) (hn : (decide (nd (l.take k) ≠ 0) && opT s o) = false) : opsB l s = false := by
 have : preB s l l.length = false := by
  unfold preB
  rw [List.all_eq_false]
  refine ⟨k, List.mem_range.2 hk, ?_⟩
  simp only [List.getD, h, Option.getD_some]
  rw [hn]
  simp
 simp [opsB, this]
theorem opsB_end {s : Int} {l : List Op3} {n : Nat} (hl : l.length = n) (h15 : n ≤ 15) (h : preB s l n = true) : opsB l s = decide (nd l = 0) := by
 subst hl
 simp [opsB, h15, h]

set_option maxRecDepth 100000 in
set_option maxHeartbeats 4000000 in
theorem i_OpsOk {w : World} {B : Nat} {A : Option Addr} {n c : Nat} {l : List Op3} (s : Int) (h : Reads w B 3 A n (recs eOp l)) (hB : B ≤ w.heap.size) (hn : n ≤ 1099511627776) :
  Calls Tryd.prog 51 #[.slice A n c, .int .i64 s] w fun e w' => e = .returned (.bool (opsB l s)) ∧ Below w.heap.size w w' := by
 have hl := eOp_clen h
 have Hl := Lib.hid hl
 by_cases h0 : n = 0
 ·have hl0 : l = [] := List.eq_nil_of_length_eq_zero (by omega)
  have He := Lib.hid (show opsB l s = false by rw [hl0]; simp [opsB, nd])
  have q0 : ((n : Int) == 0) = true := by simp; omega
  clear h0 hl hl0
  go_enter Tryd.func51, Tryd.ntmps51
  go_wp2_with fail
  go_ret
  exact ⟨ret_bool He.out.symm, Below.refl _ _⟩
 ·have q0 : ((n : Int) == 0) = false := by simp; omega
  by_cases h15 : n ≤ 15
  ·clear h0 hl
   go_enter Tryd.func51, Tryd.ntmps51
   go_wp2_with fail
   go_loopw [5, 18] (fun zv i wr => ∃ (k : Nat) (z : Int), k ≤ n ∧ i = .int .i64 k ∧ zv = .int .i64 z ∧ z = nd (l.take k) ∧ preB s l k = true ∧ Below w.heap.size w wr) (fun _ i _ => n - (intOf i).toNat)
   case atStart => exact ⟨0, 1, Nat.zero_le _, rfl, rfl, rfl, rfl, Below.refl _ _⟩
   case round =>
    obtain ⟨k, z, hk, rfl, rfl, hz, hpre, hb⟩ := hrel
    have hzb := nd_bd (l.take k)
    have hzl : (l.take k).length ≤ 15 := by rw [List.length_take]; omega
    have hz1 : -31 ≤ z := by omega
    have hz2 : z ≤ 31 := by omega
    have Hz := Lib.hid hz
    have Hpre := Lib.hid hpre
    have Hb := Lib.hid hb
    have hsz := hb.size
    clear hz hpre hb hzb hzl
    by_cases hlt : k < n
    ·obtain ⟨ad, o0, o1, o2, rfl, hab, hx, hc0, hc1, hc2⟩ := h.atOp hlt
     have e0 := (Hb.out.cell (p := ad.add (k * 3)) (by rw [block_of_add]; omega)).trans hc0
     have e1 := (Hb.out.cell (p := nxt (ad.add (k * 3)) 1) (by rw [nxt_block]; omega)).trans hc1
     have e2 := (Hb.out.cell (p := nxt (ad.add (k * 3)) 2) (by rw [nxt_block]; omega)).trans hc2
     have Hx := Lib.hid hx
     have hkl : k < l.length := by rw [Hl.out]; exact hlt
     have g1 : (0 : Int) ≤ (k : Int) := by omega
     have g2 : (k : Int) < (n : Int) := by omega
     have har := opAr_bd o0
     have har1 := har.1
     have har2 := har.2
     have Hns := Lib.hid (nd_succ hx)
     have Hps := Lib.hid (preB_succ (s := s) hx)
     have Hpn := Lib.hid (preB_not (s := s) hkl hx)
     have Hb2 := Lib.hid (Hb.out.alloc hsz (.cells #[.int .i64 o0, .int .i64 o1, .int .i64 o2] 71))
     clear hc0 hc1 hc2 hx har hkl
     by_cases hz0 : z = 0
     ·have qz : (z == 0) = true := by simpa using hz0
      have HN := Lib.hid (Hpn.out (by rw [← Hz.out, hz0]; simp))
      clear hz0
      go_wp2_with fail
      go_ret
      exact ⟨ret_bool HN.out.symm, Hb2.out⟩
     ·have qz : (z == 0) = false := by simpa using hz0
      have Hz0 := Lib.hid hz0
      clear hz0
      go_wp2_with fail
      refine (i_opOk _ _ _ _ _).mono ?_
      rintro e w2 ⟨rfl, hb2⟩
      have Hb3 := Lib.hid (Hb2.out.trans (hb2.mono (by simp; omega)))
      have hbx := (Blk.new wr 71 #[.int .i64 o0, .int .i64 o1, .int .i64 o2]).below hb2 (by simp)
      have b0 := hbx.cell 0
      simp only [List.getElem?_toArray, List.getElem?_cons_zero] at b0
      clear hb2 hbx
      cases hX : opB o0 o1 o2 s
      ·have HN := Lib.hid (Hpn.out (by simp [opT, hX]))
       clear hX
       go_wp2_with fail
       go_ret
       exact ⟨ret_bool HN.out.symm, Hb3.out⟩
      ·have HP := Lib.hid (show preB s l (k + 1) = true by rw [Hps.out, Hpre.out, ← Hz.out]; simp [opT, hX, Hz0.out])
       clear hX
       go_wp2_with fail
       refine (i_OpArity _ _).mono ?_
       rintro e w' ⟨rfl, rfl⟩
       go_wp2_with fail
       go_roundw
       case rel => exact ⟨k + 1, _, by omega, by go_num, rfl, by rw [Hns.out, ← Hz.out], HP.out, Hb3.out⟩
       case measure => simp [intOf]; omega
    ·obtain rfl : k = n := by omega
     have He := Lib.hid (opsB_end Hl.out h15 Hpre.out)
     have HzE := Lib.hid (show z = nd l by rw [Hz.out, List.take_of_length_le (by rw [Hl.out]; exact Nat.le_refl _)])
     go_wp2_with fail
     go_ret
     refine ⟨ret_bool ?_, Hb.out⟩
     rw [He.out, ← HzE.out, Bool.eq_iff_iff]
     simp
  ·have h15' : (15 : Int) < (n : Int) := by omega
   have He := Lib.hid (show opsB l s = false by simp [opsB, Hl.out, h15])
   clear h0 hl
   go_enter Tryd.func51, Tryd.ntmps51
   go_wp2_with fail
   go_ret
   exact ⟨ret_bool He.out.symm, Below.refl _ _⟩

end Go.Proofs.YtolndlmhbnpmeaaDoor
