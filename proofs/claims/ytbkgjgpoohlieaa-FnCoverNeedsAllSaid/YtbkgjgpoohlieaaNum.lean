/- Contracts: ranges, clamping, validity of tables and cubes: the program's and the reference's functions. -/
import Derived.Test.YtbkgjgpoohlieaaMem
import Derived.Test.YtbkgjgpoohlieaaTab
import Derived.Test.YtbkgjgpoohlieaaChecked
namespace Go.Proofs.Ytbkgjgpoohlieaa
open Go.RowKit

def inR (n lo hi : Int) : Bool := decide (lo ≤ n ∧ n ≤ hi)
theorem inR_iff {n lo hi : Int} : inR n lo hi = true ↔ lo ≤ n ∧ n ≤ hi := by simp [inR]

theorem i_inRange (n lo hi : Int) (w : World) :
  Calls Try.prog 53 #[.int .i64 n, .int .i64 lo, .int .i64 hi] w fun e w' => e = .returned (.bool (inR n lo hi)) ∧ w = w' := by
 go_enter Try.func53, Try.ntmps53
 go_wp2
 all_goals go_ret
 all_goals refine ⟨?_, rfl⟩
 all_goals simp [inR]; try omega

theorem s_l01In (n lo hi : Int) (w : World) :
  Calls Try.prog 77 #[.int .i64 n, .int .i64 lo, .int .i64 hi] w fun e w' => e = .returned (.bool (inR n lo hi)) ∧ w = w' := by
 go_enter Try.func77, Try.ntmps77
 go_wp2
 all_goals go_ret
 all_goals refine ⟨?_, rfl⟩
 all_goals simp [inR]; try omega

def full (n : Int) : Int := 2^(2^n.toNat) - 1
def tOk (n b : Int) : Bool := inR n 0 4 && inR b 0 (full n)

theorem five {n : Int} (h : inR n 0 4 = true) : n = 0 ∨ n = 1 ∨ n = 2 ∨ n = 3 ∨ n = 4 := by
 have := inR_iff.1 h; omega

theorem s_l02Full (n : Int) (w : World) (h : inR n 0 4 = true) :
  Calls Try.prog 72 #[.int .i64 n] w fun e w' => e = .returned (.int .i64 (full n)) ∧ w = w' := by
 rcases five h with rfl | rfl | rfl | rfl | rfl
 all_goals
  clear h
  go_enter Try.func72, Try.ntmps72
  go_wp2
 all_goals go_ret
 all_goals exact ⟨by rfl, rfl⟩

theorem l_toTable (n b : Int) (w : World) :
  Calls Try.prog 39 #[.agg #[.int .i64 n, .int .i64 b]] w fun e w' => e = .returned (.agg #[.int .i64 n, .int .i64 b]) ∧ Below w.heap.size w w' := by
 go_enter Try.func39, Try.ntmps39
 go_wp2
 exact bodyPost_ret (v := .agg #[.int .i64 n, .int .i64 b]) (by simp [results, Try.results39, go_sem]) rfl ⟨rfl, (((Below.refl _ _).alloc (Nat.le_refl _) _).alloc (by simp) _).alloc (by simp; omega) _⟩

theorem l_toCube (n b : Int) (w : World) :
  Calls Try.prog 61 #[.agg #[.int .i64 n, .int .i64 b]] w fun e w' => e = .returned (.agg #[.int .i64 n, .int .i64 b]) ∧ Below w.heap.size w w' := by
 go_enter Try.func61, Try.ntmps61
 go_wp2
 exact bodyPost_ret (v := .agg #[.int .i64 n, .int .i64 b]) (by simp [results, Try.results61, go_sem]) rfl ⟨rfl, (((Below.refl _ _).alloc (Nat.le_refl _) _).alloc (by simp) _).alloc (by simp; omega) _⟩

theorem i_TableOk (n b : Int) (w : World) :
  Calls Try.prog 26 #[.agg #[.int .i64 n, .int .i64 b]] w fun e w' => e = .returned (.bool (tOk n b)) ∧ Below w.heap.size w w' := by
 by_cases hn : inR n 0 4 = true
 ·rcases five hn with rfl | rfl | rfl | rfl | rfl
  all_goals
   go_enter Try.func26, Try.ntmps26
   go_wp2_with (first | (go_at_call 53; refine (i_inRange _ _ _ _).mono ?_; rintro e w' ⟨rfl, rfl⟩))
  all_goals go_ret
  all_goals exact ⟨by simp [tOk, hn]; rfl, bel_⟩
 ·have hn : inR n 0 4 = false := by simpa using hn
  go_enter Try.func26, Try.ntmps26
  go_wp2_with (first | (go_at_call 53; refine (i_inRange _ _ _ _).mono ?_; rintro e w' ⟨rfl, rfl⟩))
  go_ret
  exact ⟨by simp [tOk, hn], bel_⟩

theorem s_TableOk (n b : Int) (w : World) :
  Calls Try.prog 67 #[.agg #[.int .i64 n, .int .i64 b]] w fun e w' => e = .returned (.bool (tOk n b)) ∧ Below w.heap.size w w' := by
 by_cases hn : inR n 0 4 = true
 ·by_cases hb : 0 ≤ b
  ·have hb1 : decide (0 ≤ b) = true := by simpa using hb
   go_enter Try.func67, Try.ntmps67
   go_wp2_with fail
   go_quiet ((first | (go_at_call 77; exact Calls.quiet_of_same (toSym (s_l01In _ _ _ _))) | (go_at_call 72; exact Calls.quiet_of_same (toSym (s_l02Full _ _ hn)))))
   go_wp2
   go_ret
   exact ⟨ret_bool (by simp only [tOk, hn, Bool.true_and]; simp [inR, hb]), bel_⟩
  ·have hb1 : decide (0 ≤ b) = false := by simpa using hb
   go_enter Try.func67, Try.ntmps67
   go_wp2_with fail
   go_quiet ((first | (go_at_call 77; exact Calls.quiet_of_same (toSym (s_l01In _ _ _ _))) | (go_at_call 72; exact Calls.quiet_of_same (toSym (s_l02Full _ _ hn)))))
   go_wp2
   go_ret
   have h4 : inR b 0 (full n) = false := by simp only [inR, decide_eq_false_iff_not]; omega
   exact ⟨ret_bool (by simp [tOk, h4]), bel_⟩
 ·have hn : inR n 0 4 = false := by simpa using hn
  go_enter Try.func67, Try.ntmps67
  go_wp2_with fail
  go_quiet ((first | (go_at_call 77; exact Calls.quiet_of_same (toSym (s_l01In _ _ _ _)))))
  go_wp2
  go_ret
  exact ⟨ret_bool (by simp [tOk, hn]), bel_⟩

def clamp (n lo hi : Int) : Int := if hi < lo ∨ n < lo then lo else if hi < n then hi else n
end Go.Proofs.Ytbkgjgpoohlieaa
