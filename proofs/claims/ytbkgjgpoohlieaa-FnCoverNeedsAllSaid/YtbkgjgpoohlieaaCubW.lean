/- Contracts: validity of a cube, a cube's indexes, a table's value at an index: the program's and the reference's functions. -/
import Derived.Test.YtbkgjgpoohlieaaNum
import Derived.Test.YtbkgjgpoohlieaaCubeM
namespace Go.Proofs.Ytbkgjgpoohlieaa
open Go.RowKit

def top (n : Int) : Int := 2 ^ n.toNat - 1
def cOk (n c v : Int) : Bool := inR n 0 4 && inR c 0 (top n) && inR v 0 (top n) && decide (Tb.andn v.toNat c.toNat = 0)

theorem top_le {n : Int} (h : inR n 0 4 = true) : top n ≤ 15 := by
 rcases five h with rfl | rfl | rfl | rfl | rfl <;> decide
theorem nat_of {x k : Int} (h : inR x 0 k = true) (hk : k ≤ 65535) : ∃ m : Nat, x = m ∧ m ≤ 65535 ∧ (m : Int) ≤ k := by
 have := inR_iff.1 h
 exact ⟨x.toNat, by omega, by omega, by omega⟩

theorem cast0 (a : Nat) : ((a : Int) == 0) = decide (a = 0) := by rw [Bool.eq_iff_iff]; simp
theorem cast1 (a : Nat) : ((a : Int) == 1) = decide (a = 1) := by rw [Bool.eq_iff_iff]; simp; omega

theorem pow_bd {n : Int} (h : inR n 0 4 = true) : (1 : Int) ≤ 2 ^ n.toNat ∧ (2 : Int) ^ n.toNat ≤ 16 := by
 rcases five h with rfl | rfl | rfl | rfl | rfl <;> decide
theorem w64_pow {n : Int} (h : inR n 0 4 = true) : wrap64 (2 ^ n.toNat) = 2 ^ n.toNat ∧ wrap64 (2 ^ n.toNat - 1) = top n := by
 have := pow_bd h
 exact ⟨IntWalk.wrap64_in _ (by omega), IntWalk.wrap64_in _ (by omega)⟩
theorem i64_pow {n : Int} (h : inR n 0 4 = true) : IntKind.i64.wrap (2 ^ n.toNat) = 2 ^ n.toNat ∧ IntKind.i64.wrap (2 ^ n.toNat - 1) = top n := by
 have := pow_bd h
 exact ⟨IntWalk.i64_in _ (by omega), IntWalk.i64_in _ (by omega)⟩
theorem castEq (a b : Nat) : ((a : Int) == (b : Int)) = decide (a = b) := by rw [Bool.eq_iff_iff]; simp; omega

set_option maxHeartbeats 4000000 in
theorem i_CubeOk (n c v : Int) (w : World) :
  Calls Try.prog 70 #[.int .i64 n, .agg #[.int .i64 c, .int .i64 v]] w fun e w' => e = .returned (.bool (cOk n c v)) ∧ Below w.heap.size w w' := by
 by_cases hn : inR n 0 4 = true
 ·have ht := top_le hn
  have hn0 := (inR_iff.1 hn).1
  have hn1 := (inR_iff.1 hn).2
  obtain ⟨hw1, hw2⟩ := w64_pow hn
  by_cases hc : inR c 0 (top n) = true
  ·by_cases hv : inR v 0 (top n) = true
   ·obtain ⟨c', rfl, hc1, hc2⟩ := nat_of hc (by omega)
    obtain ⟨v', rfl, hv1, hv2⟩ := nat_of hv (by omega)
    have hbit : bits .andNot .i64 (v' : Int) (c' : Int) = ((Tb.andn v' c' : Nat) : Int) := i64_andNot_nat v' c' (by omega) (by omega)
    have he : cOk n (c' : Int) (v' : Int) = decide (Tb.andn v' c' = 0) := by simp [cOk, hn, hc, hv]
    have He := Lib.hid he
    clear he ht hc2 hv2
    go_enter Try.func70, Try.ntmps70
    go_wp2_with (first | (go_at_call 53; refine (i_inRange _ _ _ _).mono ?_; rintro e w' ⟨rfl, rfl⟩))
    go_ret
    exact ⟨ret_bool (by rw [He.out]; exact cast0 _), bel_⟩
   ·have hv : inR v 0 (top n) = false := by simpa using hv
    have He := Lib.hid (show cOk n c v = false by simp [cOk, hv])
    clear ht
    go_enter Try.func70, Try.ntmps70
    go_wp2_with (first | (go_at_call 53; refine (i_inRange _ _ _ _).mono ?_; rintro e w' ⟨rfl, rfl⟩))
    go_ret
    exact ⟨ret_bool (by rw [He.out]), bel_⟩
  ·have hc : inR c 0 (top n) = false := by simpa using hc
   have He := Lib.hid (show cOk n c v = false by simp [cOk, hc])
   clear ht
   go_enter Try.func70, Try.ntmps70
   go_wp2_with (first | (go_at_call 53; refine (i_inRange _ _ _ _).mono ?_; rintro e w' ⟨rfl, rfl⟩))
   go_ret
   exact ⟨ret_bool (by rw [He.out]), bel_⟩
 ·have hn : inR n 0 4 = false := by simpa using hn
  have He := Lib.hid (show cOk n c v = false by simp [cOk, hn])
  go_enter Try.func70, Try.ntmps70
  go_wp2_with (first | (go_at_call 53; refine (i_inRange _ _ _ _).mono ?_; rintro e w' ⟨rfl, rfl⟩))
  go_ret
  exact ⟨ret_bool (by rw [He.out]), bel_⟩

set_option maxHeartbeats 4000000 in
theorem s_CubeOk (n c v : Int) (w : World) :
  Calls Try.prog 78 #[.int .i64 n, .agg #[.int .i64 c, .int .i64 v]] w fun e w' => e = .returned (.bool (cOk n c v)) ∧ Below w.heap.size w w' := by
 by_cases hn : inR n 0 4 = true
 ·have ht := top_le hn
  have hn0 := (inR_iff.1 hn).1
  have hn1 := (inR_iff.1 hn).2
  obtain ⟨hw1, hw2⟩ := i64_pow hn
  by_cases hc : inR c 0 (top n) = true
  ·by_cases hv : inR v 0 (top n) = true
   ·obtain ⟨c', rfl, hc1, hc2⟩ := nat_of hc (by omega)
    obtain ⟨v', rfl, hv1, hv2⟩ := nat_of hv (by omega)
    have hbit : bits .andNot .i64 (v' : Int) (c' : Int) = ((Tb.andn v' c' : Nat) : Int) := i64_andNot_nat v' c' (by omega) (by omega)
    have he : cOk n (c' : Int) (v' : Int) = decide (Tb.andn v' c' = 0) := by simp [cOk, hn, hc, hv]
    have He := Lib.hid he
    clear he ht hc2 hv2
    go_enter Try.func78, Try.ntmps78
    go_wp2_with fail
    go_quiet ((first | (go_at_call 77; exact Calls.quiet_of_same (toSym (s_l01In _ _ _ _)))))
    go_wp2
    go_ret
    exact ⟨ret_bool (by rw [He.out]; exact cast0 _), bel_⟩
   ·have hv : inR v 0 (top n) = false := by simpa using hv
    have He := Lib.hid (show cOk n c v = false by simp [cOk, hv])
    clear ht
    go_enter Try.func78, Try.ntmps78
    go_wp2_with fail
    go_quiet ((first | (go_at_call 77; exact Calls.quiet_of_same (toSym (s_l01In _ _ _ _)))))
    go_wp2
    go_ret
    exact ⟨ret_bool (by rw [He.out]), bel_⟩
  ·have hc : inR c 0 (top n) = false := by simpa using hc
   have He := Lib.hid (show cOk n c v = false by simp [cOk, hc])
   clear ht
   go_enter Try.func78, Try.ntmps78
   go_wp2_with fail
   go_quiet ((first | (go_at_call 77; exact Calls.quiet_of_same (toSym (s_l01In _ _ _ _)))))
   go_wp2
   go_ret
   exact ⟨ret_bool (by rw [He.out]), bel_⟩
 ·have hn : inR n 0 4 = false := by simpa using hn
  have He := Lib.hid (show cOk n c v = false by simp [cOk, hn])
  go_enter Try.func78, Try.ntmps78
  go_wp2_with fail
  go_quiet ((first | (go_at_call 77; exact Calls.quiet_of_same (toSym (s_l01In _ _ _ _)))))
  go_wp2
  go_ret
  exact ⟨ret_bool (by rw [He.out]), bel_⟩

end Go.Proofs.Ytbkgjgpoohlieaa
