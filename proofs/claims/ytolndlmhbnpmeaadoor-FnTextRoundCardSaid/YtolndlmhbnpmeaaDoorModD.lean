/- Contracts: is a module valid: the reference's function. -/
import Derived.Test.YtolndlmhbnpmeaaDoorModC
import Derived.Outline
namespace Go.Proofs.YtolndlmhbnpmeaaDoor
open Go.RowKit

theorem kindAt_ok {sg : List TSignal} (h : sg.all sigB = true) {s : Int} (hs : inR s 0 (sg.length - 1) = true) : 0 ≤ kindAt sg s ∧ kindAt sg s ≤ 3 := by
 obtain ⟨h1, h2⟩ := inR_iff.1 hs
 obtain ⟨sn, rfl⟩ := Int.eq_ofNat_of_zero_le h1
 have hx : sg[sn]? = some sg[sn] := List.getElem?_eq_getElem (by omega)
 have hq := List.all_eq_true.1 h _ (List.mem_of_getElem? hx)
 have hk : kindAt sg (sn : Int) = (sg[sn]'(by omega)).1 := by simp [kindAt, List.getD, hx]
 rw [hk]
 simp only [sigB, Bool.and_eq_true] at hq
 exact inR_iff.1 hq.1
theorem kindOf_neg {sg : List TSignal} (h : sg.all sigB = true) (s : Int) : decide (kindOf sg s < 0) = !inR s 0 (sg.length - 1) := by
 unfold kindOf
 cases hs : inR s 0 (sg.length - 1) with
 | false => simp
 | true =>
  have := kindAt_ok h hs
  simp
  omega
theorem asg_driven (sg : List TSignal) (a : Int) : (drivesB sg a || decide (kindOf sg a = 3)) = (inR a 0 (sg.length - 1) && drivenB (kindAt sg a)) := by
 unfold drivesB kindOf drivenB
 cases inR a 0 (sg.length - 1) with
 | false => simp
 | true =>
  simp only [Bool.true_and, if_true]
  rw [← Bool.decide_or, decide_eq_decide]
  omega
theorem drivenB_pos {k : Int} (h : 0 ≤ k ∧ k ≤ 3) (h0 : k ≠ 0) : drivenB k = true := by
 unfold drivenB; rw [decide_eq_true]; omega

end Go.Proofs.YtolndlmhbnpmeaaDoor
