/- Contracts: the values of all signals in a cycle: the program's function. -/
import Derived.Test.YtjkdgedgfkgjdaaGreatSigB
import Derived.Outline
namespace Go.Proofs.YtjkdgedgfkgjdaaGreat
open Go.RowKit

theorem sigL_sz (m : TModule) (st : TWordState) (ins : List Int) : szL sInt (sigL m st ins) ≤ 1048576 := by
 rw [szI]
 unfold sigL
 split
 ·rename_i h
  unfold sigOk at h
  simp only [Bool.and_eq_true] at h
  have h1 := okE_na (flat_ok (wsB_iff h.1).1).1
  rw [nI_len]
  unfold sigN
  rw [runV_len]
  simp [inpL]
  omega
 ·simp
theorem sig_no {m : TModule} {st : TWordState} {ins : List Int} (h : sigOk m st ins = false) : sigL m st ins = [] := by
 unfold sigL
 rw [h]
 rfl
end Go.Proofs.YtjkdgedgfkgjdaaGreat
