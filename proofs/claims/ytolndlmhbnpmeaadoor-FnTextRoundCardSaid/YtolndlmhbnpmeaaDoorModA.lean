/- Contracts: signals of a module: valid, driven: the program's and the reference's functions. -/
import Derived.Test.YtolndlmhbnpmeaaDoorGg
import Derived.Test.YtolndlmhbnpmeaaDoorGe
import Derived.Outline
namespace Go.Proofs.YtolndlmhbnpmeaaDoor
open Go.RowKit

def drivenB (k : Int) : Bool := decide (k = 1 ∨ k = 2 ∨ k = 3)
def sigB (x : TSignal) : Bool := inR x.1 0 3 && (inR x.2.1 0 4 && (decide (x.2.2 = 0) || (decide (x.1 = 3) && inR x.2.2 0 15)))
/-- the kind of a signal, -1 if there is none -/
def kindOf (sg : List TSignal) (s : Int) : Int := if inR s 0 (sg.length - 1) then kindAt sg s else -1
def drivesB (sg : List TSignal) (s : Int) : Bool := inR s 0 (sg.length - 1) && decide (kindAt sg s = 1 ∨ kindAt sg s = 2)
theorem drivesB_kindOf (sg : List TSignal) (s : Int) : drivesB sg s = decide (kindOf sg s = 1 ∨ kindOf sg s = 2) := by
 unfold drivesB kindOf
 cases inR s 0 (sg.length - 1) <;> simp

theorem i_isDriven (k : Int) (w : World) : Calls Tryd.prog 50 #[.int .i64 k] w fun e w' => e = .returned (.bool (drivenB k)) ∧ w = w' := by
 by_cases h1 : k = 1
 ·subst h1
  go_enter Tryd.func50, Tryd.ntmps50
  go_wp2
  go_ret
  exact ⟨rfl, rfl⟩
 ·by_cases h2 : k = 2
  ·subst h2
   go_enter Tryd.func50, Tryd.ntmps50
   go_wp2
   go_ret
   exact ⟨rfl, rfl⟩
  ·by_cases h3 : k = 3
   ·subst h3
    go_enter Tryd.func50, Tryd.ntmps50
    go_wp2
    go_ret
    exact ⟨rfl, rfl⟩
   ·have He := Lib.hid (show drivenB k = false by unfold drivenB; rw [decide_eq_false]; omega)
    have q1 : (k == 1) = false := by simpa using h1
    have q2 : (k == 2) = false := by simpa using h2
    have q3 : (k == 3) = false := by simpa using h3
    go_enter Tryd.func50, Tryd.ntmps50
    go_wp2
    go_ret
    exact ⟨ret_bool He.out.symm, rfl⟩
set_option maxHeartbeats 2000000 in
theorem i_signalOk (a b c : Int) (w : World) : Calls Tryd.prog 49 #[.agg #[.int .i64 a, .int .i64 b, .int .i64 c]] w fun e w' => e = .returned (.bool (sigB (a, b, c))) ∧ Below w.heap.size w w' := by
 obtain ⟨qa, HA⟩ : ∃ q, Hid (inR a 0 3 = q) := ⟨_, Lib.hid rfl⟩
 obtain ⟨qb, HB⟩ : ∃ q, Hid (inR b 0 4 = q) := ⟨_, Lib.hid rfl⟩
 obtain ⟨qc, HC⟩ : ∃ q, Hid (inR c 0 15 = q) := ⟨_, Lib.hid rfl⟩
 have He := Lib.hid (show sigB (a, b, c) = (qa && (qb && (decide (c = 0) || (decide (a = 3) && qc)))) by simp only [sigB]; rw [HA.out, HB.out, HC.out])
 cases qa with
 | false =>
  go_enter Tryd.func49, Tryd.ntmps49
  go_wp2_with (first | (go_at_call 37; refine (i_inRange _ _ _ _).mono ?_; rintro e w' ⟨rfl, rfl⟩; (first | rw [HA.out] | rw [HB.out] | rw [HC.out])))
  go_ret
  exact ⟨ret_bool (by rw [He.out]; rfl), bel_⟩
 | true =>
  cases qb with
  | false =>
   go_enter Tryd.func49, Tryd.ntmps49
   go_wp2_with (first | (go_at_call 37; refine (i_inRange _ _ _ _).mono ?_; rintro e w' ⟨rfl, rfl⟩; (first | rw [HA.out] | rw [HB.out] | rw [HC.out])))
   go_ret
   exact ⟨ret_bool (by rw [He.out]; rfl), bel_⟩
  | true =>
   by_cases hc : c = 0
   ·subst hc
    go_enter Tryd.func49, Tryd.ntmps49
    go_wp2_with (first | (go_at_call 37; refine (i_inRange _ _ _ _).mono ?_; rintro e w' ⟨rfl, rfl⟩; (first | rw [HA.out] | rw [HB.out] | rw [HC.out])))
    go_ret
    exact ⟨ret_bool (by rw [He.out]; rfl), bel_⟩
   ·have q0 : (c == 0) = false := by simpa using hc
    have Hc := Lib.hid hc
    clear hc
    by_cases ha : a = 3
    ·subst ha
     go_enter Tryd.func49, Tryd.ntmps49
     go_wp2_with (first | (go_at_call 37; refine (i_inRange _ _ _ _).mono ?_; rintro e w' ⟨rfl, rfl⟩; (first | rw [HA.out] | rw [HB.out] | rw [HC.out])))
     go_ret
     exact ⟨ret_bool (by rw [He.out, decide_eq_false Hc.out]; rfl), bel_⟩
    ·have q3 : (a == 3) = false := by simpa using ha
     have Ha := Lib.hid ha
     clear ha
     go_enter Tryd.func49, Tryd.ntmps49
     go_wp2_with (first | (go_at_call 37; refine (i_inRange _ _ _ _).mono ?_; rintro e w' ⟨rfl, rfl⟩; (first | rw [HA.out] | rw [HB.out] | rw [HC.out])))
     go_ret
     exact ⟨ret_bool (by rw [He.out, decide_eq_false Hc.out, decide_eq_false Ha.out]; rfl), bel_⟩

set_option maxHeartbeats 2000000 in
theorem i_drives {w : World} {S : Nat → Prop} {v : Value} {m : TModule} (s : Int) (h : RModule w S v m) (hS : ∀ b, S b → b < w.heap.size) :
  Calls Tryd.prog 53 #[v, .int .i64 s] w fun e w' => e = .returned (.bool (drivesB m.1 s)) ∧ Below w.heap.size w w' := by
 obtain ⟨A0, c0, A1, c1, A2, c2, A3, c3, rfl, hSg, -, -, -, hm0, -⟩ := mod_open h
 obtain ⟨sg, asg, ins, mms⟩ := m
 simp only at hSg hm0 ⊢
 obtain ⟨ns, hns⟩ : ∃ ns, sg.length = ns := ⟨_, rfl⟩
 rw [hns] at hSg hm0 ⊢
 have Hns := Lib.hid hns
 unfold maxLen at hm0
 clear hns
 clear h
 cases hq : inR s 0 ((ns : Int) - 1) with
 | false =>
  have Hq := Lib.hid hq
  clear hq
  go_enter Tryd.func53, Tryd.ntmps53
  go_wp2_with fail
  refine (i_inRange s 0 ((ns : Int) - 1) _).mono ?_
  rintro e w9 ⟨rfl, rfl⟩
  rw [Hq.out]
  go_wp2_with fail
  go_ret
  exact ⟨ret_bool (by unfold drivesB; rw [Hns.out, Hq.out]; rfl), bel_⟩
 | true =>
  obtain ⟨h1, h2⟩ := inR_iff.1 hq
  obtain ⟨sn, rfl⟩ := Int.eq_ofNat_of_zero_le h1
  have g1 : (0 : Int) ≤ (sn : Int) := by omega
  have g2 : (sn : Int) < (ns : Int) := by omega
  have Hq := Lib.hid hq
  obtain ⟨ad, x0, x1, x2, rfl, hab, hx, e0, e1, e2⟩ := fSignalS_row hSg (k := sn) (by omega)
  have hab1 := hS _ hab
  have He := Lib.hid (show drivesB sg (sn : Int) = decide (x0 = 1 ∨ x0 = 2) by unfold drivesB; rw [Hns.out, hq, show kindAt sg (sn : Int) = x0 by simp [kindAt, List.getD, hx]]; rfl)
  have f0 := (World.cell?_alloc_lt w (.cells #[.slice (some ad) ns c0, .slice A1 asg.length c1, .slice A2 ins.length c2, .slice A3 mms.length c3] 50) (ad.add (sn * 3)) (by rw [block_of_add]; exact hab1)).trans e0
  clear hq h1 h2 hx e0 e1 e2
  by_cases hx1 : x0 = 1
  ·subst hx1
   go_enter Tryd.func53, Tryd.ntmps53
   go_wp2_with fail
   refine (i_inRange (sn : Int) 0 ((ns : Int) - 1) _).mono ?_
   rintro e w9 ⟨rfl, rfl⟩
   rw [Hq.out]
   go_wp2_with fail
   go_ret
   exact ⟨ret_bool (by rw [He.out]; rfl), bel_⟩
  ·by_cases hx2 : x0 = 2
   ·subst hx2
    go_enter Tryd.func53, Tryd.ntmps53
    go_wp2_with fail
    refine (i_inRange (sn : Int) 0 ((ns : Int) - 1) _).mono ?_
    rintro e w9 ⟨rfl, rfl⟩
    rw [Hq.out]
    go_wp2_with fail
    go_ret
    exact ⟨ret_bool (by rw [He.out]; rfl), bel_⟩
   ·have q1 : (x0 == 1) = false := by simpa using hx1
    have q2 : (x0 == 2) = false := by simpa using hx2
    have He2 := Lib.hid (show drivesB sg (sn : Int) = false by rw [He.out, decide_eq_false]; omega)
    clear hx1 hx2
    go_enter Tryd.func53, Tryd.ntmps53
    go_wp2_with fail
    refine (i_inRange (sn : Int) 0 ((ns : Int) - 1) _).mono ?_
    rintro e w9 ⟨rfl, rfl⟩
    rw [Hq.out]
    go_wp2_with fail
    go_ret
    exact ⟨ret_bool He2.out.symm, bel_⟩
end Go.Proofs.YtolndlmhbnpmeaaDoor
