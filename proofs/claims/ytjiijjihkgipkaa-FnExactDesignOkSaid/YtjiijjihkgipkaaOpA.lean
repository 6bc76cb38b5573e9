/- Contracts: operators: their arity, their validity: the program's and the reference's functions. -/
import Derived.Test.YtjiijjihkgipkaaNum
import Derived.Test.YtjiijjihkgipkaaRec
import Derived.Outline
namespace Go.Proofs.Ytjiijjihkgipkaa
open Go.RowKit

def opAr (k : Int) : Int := if 0 ≤ k ∧ k ≤ 3 then 0 else if k = 4 then 1 else if 5 ≤ k ∧ k ≤ 11 then 2 else if k = 12 then 3 else -1
theorem opAr_bd (k : Int) : -1 ≤ opAr k ∧ opAr k ≤ 3 := by unfold opAr; repeat (split <;> try omega)
theorem inR_dec (n lo hi : Int) : inR n lo hi = decide (lo ≤ n ∧ n ≤ hi) := rfl

set_option maxHeartbeats 2000000 in
theorem i_OpArity (k : Int) (w : World) : Calls Try.prog 130 #[.int .i64 k] w fun e w' => e = .returned (.int .i64 (opAr k)) ∧ w = w' := by
  by_cases h1 : 0 ≤ k ∧ k ≤ 3
  · have H1 := Lib.hid (show inR k 0 3 = true from inR_iff.2 h1)
    have He := Lib.hid (show opAr k = 0 by unfold opAr; rw [if_pos h1])
    clear h1
    go_enter Try.func130, Try.ntmps130
    go_wp2_with (first | (go_at_call 67; refine (i_inRange _ _ _ _).mono ?_; rintro e w' ⟨rfl, rfl⟩; rw [H1.out]))
    go_ret
    exact ⟨ret_int He.out.symm, rfl⟩
  · have H1 := Lib.hid (show inR k 0 3 = false by simp only [inR, decide_eq_false_iff_not]; exact h1)
    by_cases h2 : k = 4
    · subst h2
      have He := Lib.hid (show opAr 4 = 1 by decide)
      go_enter Try.func130, Try.ntmps130
      go_wp2_with (first | (go_at_call 67; refine (i_inRange _ _ _ _).mono ?_; rintro e w' ⟨rfl, rfl⟩; rw [H1.out]))
      go_ret
      exact ⟨ret_int He.out.symm, rfl⟩
    · have q2 : (k == 4) = false := by simpa using h2
      by_cases h3 : 5 ≤ k ∧ k ≤ 11
      · have H3 := Lib.hid (show inR k 5 11 = true from inR_iff.2 h3)
        have He := Lib.hid (show opAr k = 2 by unfold opAr; rw [if_neg h1, if_neg h2, if_pos h3])
        clear h1 h2 h3
        go_enter Try.func130, Try.ntmps130
        go_wp2_with (first | (go_at_call 67; refine (i_inRange _ _ _ _).mono ?_; rintro e w' ⟨rfl, rfl⟩; first | rw [H1.out] | rw [H3.out]))
        go_ret
        exact ⟨ret_int He.out.symm, rfl⟩
      · have H3 := Lib.hid (show inR k 5 11 = false by simp only [inR, decide_eq_false_iff_not]; exact h3)
        by_cases h4 : k = 12
        · subst h4
          have He := Lib.hid (show opAr 12 = 3 by decide)
          go_enter Try.func130, Try.ntmps130
          go_wp2_with (first | (go_at_call 67; refine (i_inRange _ _ _ _).mono ?_; rintro e w' ⟨rfl, rfl⟩; first | rw [H1.out] | rw [H3.out]))
          go_ret
          exact ⟨ret_int He.out.symm, rfl⟩
        · have q4 : (k == 12) = false := by simpa using h4
          have He := Lib.hid (show opAr k = -1 by unfold opAr; rw [if_neg h1, if_neg h2, if_neg h3, if_neg h4])
          clear h1 h2 h3 h4
          go_enter Try.func130, Try.ntmps130
          go_wp2_with (first | (go_at_call 67; refine (i_inRange _ _ _ _).mono ?_; rintro e w' ⟨rfl, rfl⟩; first | rw [H1.out] | rw [H3.out]))
          go_ret
          exact ⟨ret_int He.out.symm, rfl⟩

set_option maxHeartbeats 2000000 in
theorem s_OpArity (k : Int) (w : World) : Calls Try.prog 128 #[.int .i64 k] w fun e w' => e = .returned (.int .i64 (opAr k)) ∧ w = w' := by
  by_cases h0 : 0 ≤ k ∧ k ≤ 12
  · have H0 := Lib.hid (show inR k 0 12 = true from inR_iff.2 h0)
    obtain ⟨h01, h02⟩ := h0
    by_cases h1 : k ≤ 3
    · have He := Lib.hid (show opAr k = 0 by unfold opAr; rw [if_pos ⟨h01, h1⟩])
      go_enter Try.func128, Try.ntmps128
      go_wp2_with (first | (go_at_call 72; refine (s_l01In _ _ _ _).mono ?_; rintro e w' ⟨rfl, rfl⟩; rw [H0.out]))
      go_ret
      exact ⟨ret_int He.out.symm, rfl⟩
    · have h1' : 3 < k := by omega
      by_cases h2 : k = 4
      · subst h2
        have He := Lib.hid (show opAr 4 = 1 by decide)
        go_enter Try.func128, Try.ntmps128
        go_wp2_with (first | (go_at_call 72; refine (s_l01In _ _ _ _).mono ?_; rintro e w' ⟨rfl, rfl⟩; rw [H0.out]))
        go_ret
        exact ⟨ret_int He.out.symm, rfl⟩
      · have q2 : (k == 4) = false := by simpa using h2
        by_cases h4 : k = 12
        · subst h4
          have He := Lib.hid (show opAr 12 = 3 by decide)
          go_enter Try.func128, Try.ntmps128
          go_wp2_with (first | (go_at_call 72; refine (s_l01In _ _ _ _).mono ?_; rintro e w' ⟨rfl, rfl⟩; rw [H0.out]))
          go_ret
          exact ⟨ret_int He.out.symm, rfl⟩
        · have q4 : (k == 12) = false := by simpa using h4
          have He := Lib.hid (show opAr k = 2 by unfold opAr; rw [if_neg (by omega), if_neg h2, if_pos (by omega)])
          go_enter Try.func128, Try.ntmps128
          go_wp2_with (first | (go_at_call 72; refine (s_l01In _ _ _ _).mono ?_; rintro e w' ⟨rfl, rfl⟩; rw [H0.out]))
          go_ret
          exact ⟨ret_int He.out.symm, rfl⟩
  · have H0 := Lib.hid (show inR k 0 12 = false by simp only [inR, decide_eq_false_iff_not]; exact h0)
    have He := Lib.hid (show opAr k = -1 by unfold opAr; rw [if_neg (by omega), if_neg (by omega), if_neg (by omega), if_neg (by omega)])
    go_enter Try.func128, Try.ntmps128
    go_wp2_with (first | (go_at_call 72; refine (s_l01In _ _ _ _).mono ?_; rintro e w' ⟨rfl, rfl⟩; rw [H0.out]))
    go_ret
    exact ⟨ret_int He.out.symm, rfl⟩
end Go.Proofs.Ytjiijjihkgipkaa
