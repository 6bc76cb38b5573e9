/- Contracts: ranges, clamping, validity of tables and cubes: the program's and the reference's functions. -/
import Derived.Test.YtjiijjihkgipkaaMem
import Derived.Test.YtjiijjihkgipkaaTab
import Derived.Test.YtjiijjihkgipkaaChecked
namespace Go.Proofs.Ytjiijjihkgipkaa
open Go.RowKit

def inR (n lo hi : Int) : Bool := decide (lo ≤ n ∧ n ≤ hi)
theorem inR_iff {n lo hi : Int} : inR n lo hi = true ↔ lo ≤ n ∧ n ≤ hi := by simp [inR]

theorem i_inRange (n lo hi : Int) (w : World) :
    Calls Try.prog 67 #[.int .i64 n, .int .i64 lo, .int .i64 hi] w fun e w' => e = .returned (.bool (inR n lo hi)) ∧ w = w' := by
  go_enter Try.func67, Try.ntmps67
  go_wp2
  all_goals go_ret
  all_goals refine ⟨?_, rfl⟩
  all_goals simp [inR]; try omega

theorem s_l01In (n lo hi : Int) (w : World) :
    Calls Try.prog 72 #[.int .i64 n, .int .i64 lo, .int .i64 hi] w fun e w' => e = .returned (.bool (inR n lo hi)) ∧ w = w' := by
  go_enter Try.func72, Try.ntmps72
  go_wp2
  all_goals go_ret
  all_goals refine ⟨?_, rfl⟩
  all_goals simp [inR]; try omega

def full (n : Int) : Int := 2^(2^n.toNat) - 1
def tOk (n b : Int) : Bool := inR n 0 4 && inR b 0 (full n)

theorem five {n : Int} (h : inR n 0 4 = true) : n = 0 ∨ n = 1 ∨ n = 2 ∨ n = 3 ∨ n = 4 := by
  have := inR_iff.1 h; omega

def clamp (n lo hi : Int) : Int := if hi < lo ∨ n < lo then lo else if hi < n then hi else n
end Go.Proofs.Ytjiijjihkgipkaa
