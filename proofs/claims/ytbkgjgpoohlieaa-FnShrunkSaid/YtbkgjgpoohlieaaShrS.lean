/- Contract: the reference's TableShrink. -/
import Derived.Test.YtbkgjgpoohlieaaShr
namespace Go.Proofs.Ytbkgjgpoohlieaa
open Go.RowKit
attribute [local go_sem] i64_and1

theorem shl_len {m : Nat} (h : m ≤ 4) : wrap64 ((2 : Int) ^ m) = ((2 ^ m : Nat) : Int) := w64_two (by omega)
theorem spr_bd16 (n b : Int) (i m : Nat) (h : m ≤ (supN n b).length) : Tb.spr (supN n b) i m < 16 := by
  have := Tb.spr_bound (supN_asc n b) (n := 4) (fun k hk => (supN_lt hk).2) i m h
  omega

theorem sum_small {x y : Nat} (hx : x < 16) (hy : y ≤ 16) : wrap64 ((x : Int) + (y : Int)) = ((x + y : Nat) : Int) := by
  rw [IntWalk.wrap64_in _ (by omega)]; rfl
theorem spr_step {n b : Int} {i m : Nat} (hm : m < (supN n b).length) : wrap64 (((Tb.spr (supN n b) i m : Nat) : Int) + wrap64 ((i : Int) / 2 ^ m % 2 * 2 ^ (supN n b).getD m 0)) = ((Tb.spr (supN n b) i (m + 1) : Nat) : Int) := by
  have hg := supN_get hm
  rw [shl_int (i := i) (m := m) hg, Tb.spr]
  refine sum_small (spr_bd16 n b i m (by omega)) ?_
  have : 2 ^ (supN n b).getD m 0 ≤ 2 ^ 4 := Tb.pow_mono (by omega)
  split <;> omega

end Go.Proofs.Ytbkgjgpoohlieaa
